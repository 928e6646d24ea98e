-- Laid by a program of this session (wip/mp.py) over the kit's print.
import Derived.Test.YtkcfigfhbeohfaaG0
import Derived.Test.YtkcfigfhbeohfaaG1
import Derived.Test.YtkcfigfhbeohfaaG2
namespace Go.Proofs.Ytkcfigfhbeohfaa.G
open Go.RowKit Go.Proofs.YtkcfigfhbeohfaaW.PrintWords Go.Proofs.YtkcfigfhbeohfaaW.PrintLast Go.Proofs.YtkcfigfhbeohfaaW.PrintMore
attribute [local go_sem] max2_int min2_int max_two min_two max_three min_three max_four min_four   -- for this text's walks alone
set_option linter.unusedVariables false
set_option linter.unusedSimpArgs false

/-! ### hoggetref03_Good: function 14 -/
mutual
def hoggetref03_Good.j0 : Nat → ByteArray → Bool → Option (Bool)
  | 0, _, _ => none
  | k + 1, x0, x10 => if x10 = true then (some false) else ((hoggetref03_slash.f k x0).bind fun t126 => (if x0.toList = ([] : List UInt8) then (hoggetref03_Good.j1 k x0 t126 true) else (if 0 < (x0.size : Int) then (hoggetref03_Good.j1 k x0 t126 ((bt x0 0) != 64)) else (none))))
def hoggetref03_Good.j1 : Nat → ByteArray → Int → Bool → Option (Bool)
  | 0, _, _, _ => none
  | k + 1, x0, x3, x19 => if x19 = true then ((hoggetref03_plain.f k x0).bind fun t127 => (some t127)) else (if x3 > 0 then (if 1 ≤ x3 then (if x3 ≤ (x0.size : Int) then ((hoggetref03_plain.f k (x0.extract 1 (x3 : Int).toNat)).bind fun t128 => (if t128 = true then (if 0 ≤ (wrap64 (x3 + 1)) then (if (wrap64 (x3 + 1)) ≤ (x0.size : Int) then ((hoggetref03_plain.f k (x0.extract ((wrap64 (x3 + 1)) : Int).toNat x0.size)).bind fun t129 => (some t129)) else (none)) else (none)) else (some false))) else (none)) else (none)) else (some false))
end
def hoggetref03_Good.f (k : Nat) (a0 : ByteArray) : Option (Bool) := if (a0.size : Int) > 40 then (hoggetref03_Good.j0 k a0 true) else (hoggetref03_Good.j0 k a0 (a0.toList == ([110, 111, 100, 101, 95, 109, 111, 100, 117, 108, 101, 115] : List UInt8)))
theorem hoggetref03_Good.mono_l : ∀ k, (∀ y0 y1, LeO (hoggetref03_Good.j0 k y0 y1) (hoggetref03_Good.j0 (k + 1) y0 y1)) ∧ (∀ y0 y1 y2, LeO (hoggetref03_Good.j1 k y0 y1 y2) (hoggetref03_Good.j1 (k + 1) y0 y1 y2))
  | 0 => ⟨fun _ _ r h => by simp [hoggetref03_Good.j0] at h, fun _ _ _ r h => by simp [hoggetref03_Good.j1] at h⟩
  | k + 1 => by
    obtain ⟨ih0, ih1⟩ := hoggetref03_Good.mono_l k
    refine ⟨?_, ?_⟩
    · intro y0 y1
      unfold hoggetref03_Good.j0
      repeat' first
      | (with_reducible exact ih0 _ _)
      | (with_reducible exact ih1 _ _ _)
      | (with_reducible exact hoggetref03_plain.mono _ _)
      | (with_reducible exact hoggetref03_slash.mono _ _)
      | (with_reducible exact LeO.refl _)
      | (with_reducible exact LeO.none _)
      | (with_reducible refine LeO.ite ?_ ?_)
      | (with_reducible refine LeO.bind ?_ (fun _ => ?_))
      | exact ih0 _ _
      | exact ih1 _ _ _
      | exact hoggetref03_plain.mono _ _
      | exact hoggetref03_slash.mono _ _
      | exact LeO.none _
      | refine LeO.ite ?_ ?_
      | refine LeO.bind ?_ (fun _ => ?_)
    · intro y0 y1 y2
      unfold hoggetref03_Good.j1
      repeat' first
      | (with_reducible exact ih0 _ _)
      | (with_reducible exact ih1 _ _ _)
      | (with_reducible exact hoggetref03_plain.mono _ _)
      | (with_reducible exact hoggetref03_slash.mono _ _)
      | (with_reducible exact LeO.refl _)
      | (with_reducible exact LeO.none _)
      | (with_reducible refine LeO.ite ?_ ?_)
      | (with_reducible refine LeO.bind ?_ (fun _ => ?_))
      | exact ih0 _ _
      | exact ih1 _ _ _
      | exact hoggetref03_plain.mono _ _
      | exact hoggetref03_slash.mono _ _
      | exact LeO.none _
      | refine LeO.ite ?_ ?_
      | refine LeO.bind ?_ (fun _ => ?_)
theorem hoggetref03_Good.mono : ∀ a0 k, LeO (hoggetref03_Good.f k a0) (hoggetref03_Good.f (k + 1) a0) := by
  intro a0 k
  obtain ⟨ih0, ih1⟩ := hoggetref03_Good.mono_l k
  unfold hoggetref03_Good.f
  repeat' first
      | (with_reducible exact ih0 _ _)
      | (with_reducible exact ih1 _ _ _)
      | (with_reducible exact hoggetref03_plain.mono _ _)
      | (with_reducible exact hoggetref03_slash.mono _ _)
      | (with_reducible exact LeO.refl _)
      | (with_reducible exact LeO.none _)
      | (with_reducible refine LeO.ite ?_ ?_)
      | (with_reducible refine LeO.bind ?_ (fun _ => ?_))
      | exact ih0 _ _
      | exact ih1 _ _ _
      | exact hoggetref03_plain.mono _ _
      | exact hoggetref03_slash.mono _ _
      | exact LeO.none _
      | refine LeO.ite ?_ ?_
      | refine LeO.bind ?_ (fun _ => ?_)
set_option maxHeartbeats 8000000 in
set_option maxRecDepth 100000 in
theorem hoggetref03_Good.calls (k : Nat) (a0 : ByteArray) (r : Bool) (w : World) (h : hoggetref03_Good.f k a0 = some r) :
    Calls Try.prog 14 #[.string a0] w fun e w' => e = .returned (.bool r) ∧ Drawn0 w w' := by
  have H : (if (a0.size : Int) > 40 then (hoggetref03_Good.j0 k a0 true) else (hoggetref03_Good.j0 k a0 (a0.toList == ([110, 111, 100, 101, 95, 109, 111, 100, 117, 108, 101, 115] : List UInt8)))) = some r := h
  clear h
  have HC2 := Aside0.mk H
  clear H
  go_enter Try.func14, Try.ntmps14
  go_upto_region 1 with (fail)
  go_cut [10] (fun v10 wc => ∃ (kq : Nat) (x10_1 : Bool), v10 = .bool x10_1 ∧ Aside0 (hoggetref03_Good.j0 kq a0 x10_1 = some r) ∧ Aside0 (kq ≤ k) ∧ Drawn0 w wc)
  case first =>
    have H := HC2.out
    clear HC2
    by_cases c3 : (a0.size : Int) > 40
    · rw [if_pos c3] at H
      have c3b0 : decide (40 < (a0.size : Int)) = true := decide_eq_true c3
      have c3b1 : decide (40 < a0.size) = true := decide_eq_true (by omega)
      clear c3
      (first | rw [c3b0] | (simp only [i64_w, i32_w]; rw [c3b0]) | skip)
      have H' := Aside0.mk H
      clear H
      go_wp2
      go_meet
      case rel => exact ⟨_, (true), (by first | rfl | (simp; done) | (simp [*]; done) | exact Go.Proofs.Ytkcfigfhbeohfaa.Aid.ret_ne _ | exact Go.Proofs.Ytkcfigfhbeohfaa.Aid.ret_eq _), H', ⟨by first | omega | exact Nat.le_refl _⟩, by repeat (first | exact Drawn0.refl _ | apply Drawn0.step)⟩
    · rw [if_neg c3] at H
      have c3b0 : decide (40 < (a0.size : Int)) = false := decide_eq_false c3
      have c3b1 : decide (40 < a0.size) = false := decide_eq_false (by omega)
      clear c3
      (first | rw [c3b0] | (simp only [i64_w, i32_w]; rw [c3b0]) | skip)
      have H' := Aside0.mk H
      clear H
      go_wp2
      go_meet
      case rel => exact ⟨_, ((a0.toList == ([110, 111, 100, 101, 95, 109, 111, 100, 117, 108, 101, 115] : List UInt8))), (by first | rfl | (simp; done) | (simp [*]; done) | exact Go.Proofs.Ytkcfigfhbeohfaa.Aid.ret_ne _ | exact Go.Proofs.Ytkcfigfhbeohfaa.Aid.ret_eq _), H', ⟨by first | omega | exact Nat.le_refl _⟩, by repeat (first | exact Drawn0.refl _ | apply Drawn0.step)⟩
  case rest =>
    clear HC2
    try clear c1
    try clear p2
    try clear c3
    try clear c3b0
    try clear c3b1
    obtain ⟨kq, x10_1, rfl, HA, HJ1, ⟨mc1, rfl⟩⟩ := hcut
    cases kq with
    | zero => exact absurd HA.out (by simp [hoggetref03_Good.j0])
    | succ kj1 =>
      have H := HA.out
      clear HA
      simp only [hoggetref03_Good.j0] at H
      by_cases c4 : x10_1 = true
      · subst c4
        have H1 : (some false) = some r := by rw [if_pos rfl] at H; exact H
        clear H
        have H := H1
        clear H1
        obtain rfl := Option.some.inj H
        go_wp2
        go_ret
        exact ⟨by first | rfl | (simp; done) | (simp [*]; done) | exact Go.Proofs.Ytkcfigfhbeohfaa.Aid.ret_ne _ | exact Go.Proofs.Ytkcfigfhbeohfaa.Aid.ret_eq _, by repeat (first | exact Drawn0.refl _ | apply Drawn0.step)⟩
      · replace c4 := Bool.eq_false_iff.mpr c4
        subst c4
        have H1 : ((hoggetref03_slash.f kj1 a0).bind fun t126 => (if a0.toList = ([] : List UInt8) then (hoggetref03_Good.j1 kj1 a0 t126 true) else (if 0 < (a0.size : Int) then (hoggetref03_Good.j1 kj1 a0 t126 ((bt a0 0) != 64)) else (none)))) = some r := by rw [if_neg (show ¬ (false = true) by decide)] at H; exact H
        clear H
        have H := H1
        clear H1
        replace H := Option.bind_eq_some_iff.mp H
        obtain ⟨t126, A50, H⟩ := H
        replace H : (if a0.toList = ([] : List UInt8) then (hoggetref03_Good.j1 kj1 a0 t126 true) else (if 0 < (a0.size : Int) then (hoggetref03_Good.j1 kj1 a0 t126 ((bt a0 0) != 64)) else (none))) = some r := H
        have A5 := Aside0.mk A50
        clear A50
        have HC6 := Aside0.mk H
        clear H
        go_upto_region 4 with (first | ((with_reducible refine gate_callee (f := 22) rfl ?_); refine goesL_ (some 12) rfl rfl Try.func22 (by kernel_rfl) rfl #[.string a0] rfl (by (try simp only [List.map_toArray, List.map_cons, List.map_nil]); first | done | rfl | (simp only [List.length_drop, List.length_take]; rfl)) ?_; (with_reducible refine (hoggetref03_slash.calls kj1 a0 t126 _ A5.out).mono ?_); rintro e w' ⟨rfl, ⟨nd, rfl⟩⟩; refine ⟨_, rfl, ?_⟩))
        (try simp only [Act.put, List.setIfInBounds_toArray, List.set_cons_zero, List.set_cons_succ])
        go_cut [19] (fun v19 wc => ∃ (kq : Nat) (x19_5 : Bool), v19 = .bool x19_5 ∧ Aside0 (hoggetref03_Good.j1 kq a0 t126 x19_5 = some r) ∧ Aside0 (kq ≤ kj1) ∧ Drawn0 w wc)
        case first =>
          have H := HC6.out
          clear HC6
          by_cases c7 : a0.toList = ([] : List UInt8)
          · rw [if_pos c7] at H
            have c7b0 : (a0.toList == ([] : List UInt8)) = true := beq_iff_eq.mpr c7
            have c7b1 : (a0.toList != ([] : List UInt8)) = false := bne_eq_false_iff_eq.mpr c7
            clear c7
            (first | rw [c7b0] | (simp only [i64_w, i32_w]; rw [c7b0]) | skip)
            have H' := Aside0.mk H
            clear H
            go_wp2
            go_meet
            case rel => exact ⟨_, (true), (by first | rfl | (simp; done) | (simp [*]; done) | exact Go.Proofs.Ytkcfigfhbeohfaa.Aid.ret_ne _ | exact Go.Proofs.Ytkcfigfhbeohfaa.Aid.ret_eq _), H', ⟨by have := HJ1.out; first | omega | exact Nat.le_refl _⟩, by repeat (first | exact Drawn0.refl _ | apply Drawn0.step)⟩
          · rw [if_neg c7] at H
            have c7b0 : (a0.toList == ([] : List UInt8)) = false := beq_eq_false_iff_ne.mpr c7
            have c7b1 : (a0.toList != ([] : List UInt8)) = true := bne_iff_ne.mpr c7
            (first | rw [c7b0] | (simp only [i64_w, i32_w]; rw [c7b0]) | skip)
            by_cases c8 : 0 < (a0.size : Int)
            · rw [if_pos c8] at H
              have c8b0 : decide (0 < (a0.size : Int)) = true := decide_eq_true c8
              have c8b1 : decide (0 < a0.size) = true := decide_eq_true (by omega)
              clear c8
              have H' := Aside0.mk H
              clear H
              have p9 : 0 ≤ (0 : Int) := (by omega)
              have q9 : 0 < a0.size := (by have : (0 : Int) < (a0.size : Int) := of_decide_eq_true (by first | (with_reducible assumption) | assumption); omega)
              have hx9 : ∀ h : 0 < a0.size, ((a0[0]'h).toNat : Int) = bt a0 0 := bt_at a0 0
              clear p9
              have qi9 : (0 < (a0.size : Int)) = True := eq_true (of_decide_eq_true (by first | (with_reducible assumption) | assumption))
              replace q9 := eq_true q9
              go_wp2
              go_meet
              case rel => exact ⟨_, (((bt a0 0) != 64)), (by first | rfl | (simp; done) | (simp [*]; done) | exact Go.Proofs.Ytkcfigfhbeohfaa.Aid.ret_ne _ | exact Go.Proofs.Ytkcfigfhbeohfaa.Aid.ret_eq _), H', ⟨by have := HJ1.out; first | omega | exact Nat.le_refl _⟩, by repeat (first | exact Drawn0.refl _ | apply Drawn0.step)⟩
            · rw [if_neg c8] at H
              exact absurd H (by simp)
        case rest =>
          clear HC6
          try clear c1
          try clear c2
          try clear p2
          try clear c3
          try clear c3b0
          try clear c3b1
          try clear c4
          try clear c7
          try clear c7b0
          try clear c7b1
          try clear c8
          try clear c8b0
          try clear c8b1
          try clear p9
          try clear q9
          try clear hx9
          try clear qi9
          try clear p2
          try clear p9
          try clear q9
          obtain ⟨kq, x19_5, rfl, HA, HJ5, ⟨mc5, rfl⟩⟩ := hcut
          cases kq with
          | zero => exact absurd HA.out (by simp [hoggetref03_Good.j1])
          | succ kj5 =>
            have H := HA.out
            clear HA
            simp only [hoggetref03_Good.j1] at H
            by_cases c10 : x19_5 = true
            · subst c10
              have H1 : ((hoggetref03_plain.f kj5 a0).bind fun t127 => (some t127)) = some r := by rw [if_pos rfl] at H; exact H
              clear H
              have H := H1
              clear H1
              replace H := Option.bind_eq_some_iff.mp H
              obtain ⟨t127, A110, H⟩ := H
              replace H : (some t127) = some r := H
              have A11 := Aside0.mk A110
              clear A110
              obtain rfl := Option.some.inj H
              go_wp2_with (first | ((with_reducible refine gate_callee (f := 23) rfl ?_); refine goesL_ (some 21) rfl rfl Try.func23 (by kernel_rfl) rfl #[.string a0] rfl (by (try simp only [List.map_toArray, List.map_cons, List.map_nil]); first | done | rfl | (simp only [List.length_drop, List.length_take]; rfl)) ?_; (with_reducible refine (hoggetref03_plain.calls kj5 a0 t127 _ A11.out).mono ?_); rintro e w' ⟨rfl, ⟨nd, rfl⟩⟩; refine ⟨_, rfl, ?_⟩))
              go_ret
              exact ⟨by first | rfl | (simp; done) | (simp [*]; done) | exact Go.Proofs.Ytkcfigfhbeohfaa.Aid.ret_ne _ | exact Go.Proofs.Ytkcfigfhbeohfaa.Aid.ret_eq _, by repeat (first | exact Drawn0.refl _ | apply Drawn0.step)⟩
            · replace c10 := Bool.eq_false_iff.mpr c10
              subst c10
              have H1 : (if t126 > 0 then (if 1 ≤ t126 then (if t126 ≤ (a0.size : Int) then ((hoggetref03_plain.f kj5 (a0.extract 1 (t126 : Int).toNat)).bind fun t128 => (if t128 = true then (if 0 ≤ (wrap64 (t126 + 1)) then (if (wrap64 (t126 + 1)) ≤ (a0.size : Int) then ((hoggetref03_plain.f kj5 (a0.extract ((wrap64 (t126 + 1)) : Int).toNat a0.size)).bind fun t129 => (some t129)) else (none)) else (none)) else (some false))) else (none)) else (none)) else (some false)) = some r := by rw [if_neg (show ¬ (false = true) by decide)] at H; exact H
              clear H
              have H := H1
              clear H1
              by_cases c12 : t126 > 0
              · rw [if_pos c12] at H
                have c12b0 : decide (0 < t126) = true := decide_eq_true c12
                clear c12
                by_cases c13 : 1 ≤ t126
                · rw [if_pos c13] at H
                  have c13b0 := eq_true c13
                  have c13b1 : decide (1 ≤ t126) = true := decide_eq_true c13
                  clear c13
                  by_cases c14 : t126 ≤ (a0.size : Int)
                  · rw [if_pos c14] at H
                    have c14b0 := eq_true c14
                    have c14b1 : decide (t126 ≤ (a0.size : Int)) = true := decide_eq_true c14
                    clear c14
                    replace H := Option.bind_eq_some_iff.mp H
                    obtain ⟨t128, A150, H⟩ := H
                    replace H : (if t128 = true then (if 0 ≤ (wrap64 (t126 + 1)) then (if (wrap64 (t126 + 1)) ≤ (a0.size : Int) then ((hoggetref03_plain.f kj5 (a0.extract ((wrap64 (t126 + 1)) : Int).toNat a0.size)).bind fun t129 => (some t129)) else (none)) else (none)) else (some false)) = some r := H
                    have A15 := Aside0.mk A150
                    clear A150
                    by_cases c16 : t128 = true
                    · subst c16
                      have H1 : (if 0 ≤ (wrap64 (t126 + 1)) then (if (wrap64 (t126 + 1)) ≤ (a0.size : Int) then ((hoggetref03_plain.f kj5 (a0.extract ((wrap64 (t126 + 1)) : Int).toNat a0.size)).bind fun t129 => (some t129)) else (none)) else (none)) = some r := by rw [if_pos rfl] at H; exact H
                      clear H
                      have H := H1
                      clear H1
                      obtain ⟨ji17, hji17⟩ : ∃ j_ : Int, (wrap64 (t126 + 1)) = j_ := ⟨_, rfl⟩
                      replace H : (if 0 ≤ (ji17) then (if (ji17) ≤ (a0.size : Int) then ((hoggetref03_plain.f kj5 (a0.extract ((ji17) : Int).toNat a0.size)).bind fun t129 => (some t129)) else (none)) else (none)) = some r := by first | (rw [hji17] at H; exact H) | (simp only [hji17] at H ⊢; exact H)
                      (try rw [hji17] at A15)
                      have hji17w : (IntKind.i64.wrap (t126 + 1)) = ji17 := (i64_w _).trans hji17
                      by_cases c18 : 0 ≤ (ji17)
                      · rw [if_pos c18] at H
                        have c18b0 := eq_true c18
                        have c18b1 : decide (0 ≤ (ji17)) = true := decide_eq_true c18
                        clear c18
                        by_cases c19 : (ji17) ≤ (a0.size : Int)
                        · rw [if_pos c19] at H
                          have c19b0 := eq_true c19
                          have c19b1 : decide ((ji17) ≤ (a0.size : Int)) = true := decide_eq_true c19
                          clear c19
                          replace H := Option.bind_eq_some_iff.mp H
                          obtain ⟨t129, A200, H⟩ := H
                          replace H : (some t129) = some r := H
                          have A20 := Aside0.mk A200
                          clear A200
                          obtain rfl := Option.some.inj H
                          go_wp2_with (first | (go_at_call 23; (with_reducible refine (hoggetref03_plain.calls kj5 (a0.extract 1 (t126 : Int).toNat) true _ A15.out).mono ?_); rintro e w' ⟨rfl, ⟨nd, rfl⟩⟩) | (go_at_call 23; (with_reducible refine (hoggetref03_plain.calls kj5 (a0.extract ((ji17) : Int).toNat a0.size) t129 _ A20.out).mono ?_); rintro e w' ⟨rfl, ⟨nd, rfl⟩⟩))
                          go_ret
                          exact ⟨by first | rfl | (simp; done) | (simp only [← hji17] <;> (first | rfl | simp)) | (simp [*]; done) | exact Go.Proofs.Ytkcfigfhbeohfaa.Aid.ret_ne _ | exact Go.Proofs.Ytkcfigfhbeohfaa.Aid.ret_eq _, by repeat (first | exact Drawn0.refl _ | apply Drawn0.step)⟩
                        · rw [if_neg c19] at H
                          exact absurd H (by simp)
                      · rw [if_neg c18] at H
                        exact absurd H (by simp)
                    · replace c16 := Bool.eq_false_iff.mpr c16
                      subst c16
                      have H1 : (some false) = some r := by rw [if_neg (show ¬ (false = true) by decide)] at H; exact H
                      clear H
                      have H := H1
                      clear H1
                      obtain rfl := Option.some.inj H
                      go_wp2_with (first | (go_at_call 23; (with_reducible refine (hoggetref03_plain.calls kj5 (a0.extract 1 (t126 : Int).toNat) false _ A15.out).mono ?_); rintro e w' ⟨rfl, ⟨nd, rfl⟩⟩))
                      go_ret
                      exact ⟨by first | rfl | (simp; done) | (simp [*]; done) | exact Go.Proofs.Ytkcfigfhbeohfaa.Aid.ret_ne _ | exact Go.Proofs.Ytkcfigfhbeohfaa.Aid.ret_eq _, by repeat (first | exact Drawn0.refl _ | apply Drawn0.step)⟩
                  · rw [if_neg c14] at H
                    exact absurd H (by simp)
                · rw [if_neg c13] at H
                  exact absurd H (by simp)
              · rw [if_neg c12] at H
                have c12b0 : decide (0 < t126) = false := decide_eq_false c12
                clear c12
                obtain rfl := Option.some.inj H
                go_wp2
                go_ret
                exact ⟨by first | rfl | (simp; done) | (simp [*]; done) | exact Go.Proofs.Ytkcfigfhbeohfaa.Aid.ret_ne _ | exact Go.Proofs.Ytkcfigfhbeohfaa.Aid.ret_eq _, by repeat (first | exact Drawn0.refl _ | apply Drawn0.step)⟩

/-! ### hoggetref03_Path: function 11 -/
def hoggetref03_Path.l0 : Nat → List ByteArray → ByteArray → Int → Option (ByteArray × Int)
  | 0, _, _, _ => none
  | k + 1, x0, x4, x5 => if x5 < (x0.length : Int) then (if 0 ≤ x5 then ((hoggetref03_Good.f k (rdOf ByteArray.empty x0 x5)).bind fun t131 => (if t131 = true then (if x5 > 0 then (if x4.size + 1 ≤ 9223372036854775807 then (if (x4 ++ (⟨#[47]⟩ : ByteArray)).size + 13 ≤ 9223372036854775807 then (if ((x4 ++ (⟨#[47]⟩ : ByteArray)) ++ (⟨#[110, 111, 100, 101, 95, 109, 111, 100, 117, 108, 101, 115, 47]⟩ : ByteArray)).size + (rdOf ByteArray.empty x0 x5).size ≤ 9223372036854775807 then (hoggetref03_Path.l0 k x0 (((x4 ++ (⟨#[47]⟩ : ByteArray)) ++ (⟨#[110, 111, 100, 101, 95, 109, 111, 100, 117, 108, 101, 115, 47]⟩ : ByteArray)) ++ (rdOf ByteArray.empty x0 x5)) (wrap64 (x5 + 1))) else (none)) else (none)) else (none)) else (if x4.size + 13 ≤ 9223372036854775807 then (if (x4 ++ (⟨#[110, 111, 100, 101, 95, 109, 111, 100, 117, 108, 101, 115, 47]⟩ : ByteArray)).size + (rdOf ByteArray.empty x0 x5).size ≤ 9223372036854775807 then (hoggetref03_Path.l0 k x0 ((x4 ++ (⟨#[110, 111, 100, 101, 95, 109, 111, 100, 117, 108, 101, 115, 47]⟩ : ByteArray)) ++ (rdOf ByteArray.empty x0 x5)) (wrap64 (x5 + 1))) else (none)) else (none))) else (some ((⟨#[]⟩ : ByteArray), 30)))) else (none)) else (some (x4, 0))
def hoggetref03_Path.f (k : Nat) (l0 : List ByteArray) : Option (ByteArray × Int) := if (l0.length : Int) > 12 then (some ((⟨#[]⟩ : ByteArray), 30)) else (hoggetref03_Path.l0 k l0 (⟨#[]⟩ : ByteArray) 0)
theorem hoggetref03_Path.mono_l : ∀ k, (∀ y0 y1 y2, LeO (hoggetref03_Path.l0 k y0 y1 y2) (hoggetref03_Path.l0 (k + 1) y0 y1 y2))
  | 0 => fun _ _ _ r h => by simp [hoggetref03_Path.l0] at h
  | k + 1 => by
    have ih0 := hoggetref03_Path.mono_l k
    · intro y0 y1 y2
      unfold hoggetref03_Path.l0
      repeat' first
      | (with_reducible exact ih0 _ _ _)
      | (with_reducible exact hoggetref03_Good.mono _ _)
      | (with_reducible exact LeO.refl _)
      | (with_reducible exact LeO.none _)
      | (with_reducible refine LeO.ite ?_ ?_)
      | (with_reducible refine LeO.bind ?_ (fun _ => ?_))
      | exact ih0 _ _ _
      | exact hoggetref03_Good.mono _ _
      | exact LeO.none _
      | refine LeO.ite ?_ ?_
      | refine LeO.bind ?_ (fun _ => ?_)
theorem hoggetref03_Path.mono : ∀ a0 k, LeO (hoggetref03_Path.f k a0) (hoggetref03_Path.f (k + 1) a0) := by
  intro a0 k
  have ih0 := hoggetref03_Path.mono_l k
  unfold hoggetref03_Path.f
  repeat' first
      | (with_reducible exact ih0 _ _ _)
      | (with_reducible exact hoggetref03_Good.mono _ _)
      | (with_reducible exact LeO.refl _)
      | (with_reducible exact LeO.none _)
      | (with_reducible refine LeO.ite ?_ ?_)
      | (with_reducible refine LeO.bind ?_ (fun _ => ?_))
      | exact ih0 _ _ _
      | exact hoggetref03_Good.mono _ _
      | exact LeO.none _
      | refine LeO.ite ?_ ?_
      | refine LeO.bind ?_ (fun _ => ?_)
set_option maxHeartbeats 8000000 in
set_option maxRecDepth 100000 in
theorem hoggetref03_Path.calls (k : Nat) (A0 : Option Addr) (c0 : Nat) (l0 : List ByteArray) (r1 : ByteArray) (r2 : Int) (w : World) (hr0 : Kd.C Kd.string w A0 l0.length l0) (hc0 : l0.length ≤ c0) (h : hoggetref03_Path.f k l0 = some (r1, r2)) :
    Calls Try.prog 11 #[.slice A0 l0.length c0] w fun e w' => e = .returned (.tuple #[.string r1, .int .i64 r2]) ∧ Drawn0 w w' := by
  have HR0 := Aside0.mk hr0
  have HC0 := Aside0.mk hc0
  clear hr0 hc0
  have H : (if (l0.length : Int) > 12 then (some ((⟨#[]⟩ : ByteArray), 30)) else (hoggetref03_Path.l0 k l0 (⟨#[]⟩ : ByteArray) 0)) = some (r1, r2) := h
  clear h
  by_cases c2 : (l0.length : Int) > 12
  · rw [if_pos c2] at H
    have c2b0 : decide (12 < (l0.length : Int)) = true := decide_eq_true c2
    have c2b1 : decide (12 < l0.length) = true := decide_eq_true (by omega)
    clear c2
    simp only [Option.some.injEq, Prod.mk.injEq] at H
    obtain ⟨rfl, rfl⟩ := H
    go_enter Try.func11, Try.ntmps11
    go_wp2
    go_ret2
    exact ⟨by first | rfl | (simp; done) | (simp [*]; done) | exact Go.Proofs.Ytkcfigfhbeohfaa.Aid.ret_ne _ | exact Go.Proofs.Ytkcfigfhbeohfaa.Aid.ret_eq _, by repeat (first | exact Drawn0.refl _ | apply Drawn0.step)⟩
  · rw [if_neg c2] at H
    have c2b0 : decide (12 < (l0.length : Int)) = false := decide_eq_false c2
    have c2b1 : decide (12 < l0.length) = false := decide_eq_false (by omega)
    clear c2
    have H' := Aside0.mk H
    clear H
    go_enter Try.func11, Try.ntmps11
    go_wp2
    go_loopg [4, 5] k (fun kq v4 v5 w' => ∃ (x4_1 : ByteArray) (x5_1 : Int), v4 = .string x4_1 ∧ v5 = .int .i64 x5_1 ∧ Aside0 (hoggetref03_Path.l0 kq l0 x4_1 x5_1 = some (r1, r2)) ∧ Aside0 (kq ≤ k) ∧ Drawn0 w w')
    case atStart => exact ⟨((⟨#[]⟩ : ByteArray)), (0), (by first | rfl | (simp; done) | (simp [*]; done) | exact Go.Proofs.Ytkcfigfhbeohfaa.Aid.ret_ne _ | exact Go.Proofs.Ytkcfigfhbeohfaa.Aid.ret_eq _), (by first | rfl | (simp; done) | (simp [*]; done) | exact Go.Proofs.Ytkcfigfhbeohfaa.Aid.ret_ne _ | exact Go.Proofs.Ytkcfigfhbeohfaa.Aid.ret_eq _), H', ⟨Nat.le_refl _⟩, by repeat (first | exact Drawn0.refl _ | apply Drawn0.step)⟩
    case round =>
      clear H'
      try clear c1
      try clear c2
      try clear c2b0
      try clear c2b1
      try clear p2
      obtain ⟨x4_1, x5_1, rfl, rfl, HA, HK1, ⟨m1, rfl⟩⟩ := hrel
      cases gk with
      | zero => exact absurd HA.out (by simp [hoggetref03_Path.l0])
      | succ k1 =>
        have H := HA.out
        clear HA
        simp only [hoggetref03_Path.l0] at H
        by_cases c3 : x5_1 < (l0.length : Int)
        · rw [if_pos c3] at H
          have c3b0 : decide (x5_1 < (l0.length : Int)) = true := decide_eq_true c3
          clear c3
          by_cases c4 : 0 ≤ x5_1
          · rw [if_pos c4] at H
            have c4b0 : decide (0 ≤ x5_1) = true := decide_eq_true c4
            clear c4
            replace H := Option.bind_eq_some_iff.mp H
            obtain ⟨t131, A50, H⟩ := H
            replace H : (if t131 = true then (if x5_1 > 0 then (if x4_1.size + 1 ≤ 9223372036854775807 then (if (x4_1 ++ (⟨#[47]⟩ : ByteArray)).size + 13 ≤ 9223372036854775807 then (if ((x4_1 ++ (⟨#[47]⟩ : ByteArray)) ++ (⟨#[110, 111, 100, 101, 95, 109, 111, 100, 117, 108, 101, 115, 47]⟩ : ByteArray)).size + (rdOf ByteArray.empty l0 x5_1).size ≤ 9223372036854775807 then (hoggetref03_Path.l0 k1 l0 (((x4_1 ++ (⟨#[47]⟩ : ByteArray)) ++ (⟨#[110, 111, 100, 101, 95, 109, 111, 100, 117, 108, 101, 115, 47]⟩ : ByteArray)) ++ (rdOf ByteArray.empty l0 x5_1)) (wrap64 (x5_1 + 1))) else (none)) else (none)) else (none)) else (if x4_1.size + 13 ≤ 9223372036854775807 then (if (x4_1 ++ (⟨#[110, 111, 100, 101, 95, 109, 111, 100, 117, 108, 101, 115, 47]⟩ : ByteArray)).size + (rdOf ByteArray.empty l0 x5_1).size ≤ 9223372036854775807 then (hoggetref03_Path.l0 k1 l0 ((x4_1 ++ (⟨#[110, 111, 100, 101, 95, 109, 111, 100, 117, 108, 101, 115, 47]⟩ : ByteArray)) ++ (rdOf ByteArray.empty l0 x5_1)) (wrap64 (x5_1 + 1))) else (none)) else (none))) else (some ((⟨#[]⟩ : ByteArray), 30))) = some (r1, r2) := H
            have A5 := Aside0.mk A50
            clear A50
            by_cases c6 : t131 = true
            · subst c6
              have H1 : (if x5_1 > 0 then (if x4_1.size + 1 ≤ 9223372036854775807 then (if (x4_1 ++ (⟨#[47]⟩ : ByteArray)).size + 13 ≤ 9223372036854775807 then (if ((x4_1 ++ (⟨#[47]⟩ : ByteArray)) ++ (⟨#[110, 111, 100, 101, 95, 109, 111, 100, 117, 108, 101, 115, 47]⟩ : ByteArray)).size + (rdOf ByteArray.empty l0 x5_1).size ≤ 9223372036854775807 then (hoggetref03_Path.l0 k1 l0 (((x4_1 ++ (⟨#[47]⟩ : ByteArray)) ++ (⟨#[110, 111, 100, 101, 95, 109, 111, 100, 117, 108, 101, 115, 47]⟩ : ByteArray)) ++ (rdOf ByteArray.empty l0 x5_1)) (wrap64 (x5_1 + 1))) else (none)) else (none)) else (none)) else (if x4_1.size + 13 ≤ 9223372036854775807 then (if (x4_1 ++ (⟨#[110, 111, 100, 101, 95, 109, 111, 100, 117, 108, 101, 115, 47]⟩ : ByteArray)).size + (rdOf ByteArray.empty l0 x5_1).size ≤ 9223372036854775807 then (hoggetref03_Path.l0 k1 l0 ((x4_1 ++ (⟨#[110, 111, 100, 101, 95, 109, 111, 100, 117, 108, 101, 115, 47]⟩ : ByteArray)) ++ (rdOf ByteArray.empty l0 x5_1)) (wrap64 (x5_1 + 1))) else (none)) else (none))) = some (r1, r2) := by rw [if_pos rfl] at H; exact H
              clear H
              have H := H1
              clear H1
              by_cases c7 : x5_1 > 0
              · rw [if_pos c7] at H
                have c7b0 : decide (0 < x5_1) = true := decide_eq_true c7
                clear c7
                by_cases c8 : x4_1.size + 1 ≤ 9223372036854775807
                · rw [if_pos c8] at H
                  have c8b0 := eq_true c8
                  have c8b1 : decide (x4_1.size + 1 ≤ 9223372036854775807) = true := decide_eq_true c8
                  try have c8b2 : (9223372036854775807 < x4_1.size + 1) = False := eq_false (Nat.not_lt.2 c8)
                  by_cases c9 : (x4_1 ++ (⟨#[47]⟩ : ByteArray)).size + 13 ≤ 9223372036854775807
                  · rw [if_pos c9] at H
                    have c9b0 := eq_true c9
                    try (have c9s_ := c9; simp only [ByteArray.size_append, show (⟨#[47]⟩ : ByteArray).size = 1 from rfl] at c9s_)
                    have c9b1 : decide ((x4_1 ++ (⟨#[47]⟩ : ByteArray)).size + 13 ≤ 9223372036854775807) = true := decide_eq_true c9
                    try have c9b2 : (9223372036854775807 < (x4_1 ++ (⟨#[47]⟩ : ByteArray)).size + 13) = False := eq_false (Nat.not_lt.2 c9)
                    by_cases c10 : ((x4_1 ++ (⟨#[47]⟩ : ByteArray)) ++ (⟨#[110, 111, 100, 101, 95, 109, 111, 100, 117, 108, 101, 115, 47]⟩ : ByteArray)).size + (rdOf ByteArray.empty l0 x5_1).size ≤ 9223372036854775807
                    · rw [if_pos c10] at H
                      have c10b0 := eq_true c10
                      try (have c10s_ := c10; simp only [ByteArray.size_append, show (⟨#[47]⟩ : ByteArray).size = 1 from rfl, show (⟨#[110, 111, 100, 101, 95, 109, 111, 100, 117, 108, 101, 115, 47]⟩ : ByteArray).size = 13 from rfl] at c10s_)
                      have c10b1 : decide (((x4_1 ++ (⟨#[47]⟩ : ByteArray)) ++ (⟨#[110, 111, 100, 101, 95, 109, 111, 100, 117, 108, 101, 115, 47]⟩ : ByteArray)).size + (rdOf ByteArray.empty l0 x5_1).size ≤ 9223372036854775807) = true := decide_eq_true c10
                      try have c10b2 : (9223372036854775807 < ((x4_1 ++ (⟨#[47]⟩ : ByteArray)) ++ (⟨#[110, 111, 100, 101, 95, 109, 111, 100, 117, 108, 101, 115, 47]⟩ : ByteArray)).size + (rdOf ByteArray.empty l0 x5_1).size) = False := eq_false (Nat.not_lt.2 c10)
                      have H' := Aside0.mk H
                      clear H
                      have p130 : 0 ≤ (x5_1 : Int) := of_decide_eq_true (by first | (with_reducible assumption) | assumption)
                      have q130 : x5_1 < (l0.length : Int) := of_decide_eq_true (by first | (with_reducible assumption) | assumption)
                      obtain ⟨ad130, e130, hx130_0⟩ := Kd.at_string HR0.out x5_1 p130 q130
                      cases e130
                      replace p130 := eq_true p130
                      replace q130 := eq_true q130
                      go_wp2_with (first | ((with_reducible refine gate_callee (f := 14) rfl ?_); refine goesL_ (some 19) rfl rfl Try.func14 (by kernel_rfl) rfl #[.string (rdOf ByteArray.empty l0 x5_1)] rfl (by (try simp only [List.map_toArray, List.map_cons, List.map_nil]); first | done | rfl | (simp only [List.length_drop, List.length_take]; rfl)) ?_; (with_reducible refine (hoggetref03_Good.calls k1 (rdOf ByteArray.empty l0 x5_1) true _ A5.out).mono ?_); rintro e w' ⟨rfl, ⟨nd, rfl⟩⟩; refine ⟨_, rfl, ?_⟩; have p132 : 0 ≤ (x5_1 : Int) := of_decide_eq_true (by first | (with_reducible assumption) | assumption); have q132 : x5_1 < (l0.length : Int) := of_decide_eq_true (by first | (with_reducible assumption) | assumption); obtain ⟨ad132, e132, hx132_0⟩ := Kd.at_string HR0.out x5_1 p132 q132; obtain rfl : ad130 = ad132 := (by injection e132); replace p132 := eq_true p132; replace q132 := eq_true q132))
                      go_roundg k1
                      case measure => have := HK1.out; omega
                      case rel => exact ⟨(((x4_1 ++ (⟨#[47]⟩ : ByteArray)) ++ (⟨#[110, 111, 100, 101, 95, 109, 111, 100, 117, 108, 101, 115, 47]⟩ : ByteArray)) ++ (rdOf ByteArray.empty l0 x5_1)), (wrap64 (x5_1 + 1)), (by first | rfl | (simp; done) | (simp [*]; done) | exact Go.Proofs.Ytkcfigfhbeohfaa.Aid.ret_ne _ | exact Go.Proofs.Ytkcfigfhbeohfaa.Aid.ret_eq _), (by first | rfl | (simp; done) | (simp [*]; done) | exact Go.Proofs.Ytkcfigfhbeohfaa.Aid.ret_ne _ | exact Go.Proofs.Ytkcfigfhbeohfaa.Aid.ret_eq _), H', ⟨by have := HK1.out; omega⟩, by repeat (first | exact Drawn0.refl _ | apply Drawn0.step)⟩
                    · rw [if_neg c10] at H
                      exact absurd H (by simp)
                  · rw [if_neg c9] at H
                    exact absurd H (by simp)
                · rw [if_neg c8] at H
                  exact absurd H (by simp)
              · rw [if_neg c7] at H
                have c7b0 : decide (0 < x5_1) = false := decide_eq_false c7
                clear c7
                by_cases c11 : x4_1.size + 13 ≤ 9223372036854775807
                · rw [if_pos c11] at H
                  have c11b0 := eq_true c11
                  have c11b1 : decide (x4_1.size + 13 ≤ 9223372036854775807) = true := decide_eq_true c11
                  try have c11b2 : (9223372036854775807 < x4_1.size + 13) = False := eq_false (Nat.not_lt.2 c11)
                  by_cases c12 : (x4_1 ++ (⟨#[110, 111, 100, 101, 95, 109, 111, 100, 117, 108, 101, 115, 47]⟩ : ByteArray)).size + (rdOf ByteArray.empty l0 x5_1).size ≤ 9223372036854775807
                  · rw [if_pos c12] at H
                    have c12b0 := eq_true c12
                    try (have c12s_ := c12; simp only [ByteArray.size_append, show (⟨#[110, 111, 100, 101, 95, 109, 111, 100, 117, 108, 101, 115, 47]⟩ : ByteArray).size = 13 from rfl] at c12s_)
                    have c12b1 : decide ((x4_1 ++ (⟨#[110, 111, 100, 101, 95, 109, 111, 100, 117, 108, 101, 115, 47]⟩ : ByteArray)).size + (rdOf ByteArray.empty l0 x5_1).size ≤ 9223372036854775807) = true := decide_eq_true c12
                    try have c12b2 : (9223372036854775807 < (x4_1 ++ (⟨#[110, 111, 100, 101, 95, 109, 111, 100, 117, 108, 101, 115, 47]⟩ : ByteArray)).size + (rdOf ByteArray.empty l0 x5_1).size) = False := eq_false (Nat.not_lt.2 c12)
                    have H' := Aside0.mk H
                    clear H
                    have p130 : 0 ≤ (x5_1 : Int) := of_decide_eq_true (by first | (with_reducible assumption) | assumption)
                    have q130 : x5_1 < (l0.length : Int) := of_decide_eq_true (by first | (with_reducible assumption) | assumption)
                    obtain ⟨ad130, e130, hx130_0⟩ := Kd.at_string HR0.out x5_1 p130 q130
                    cases e130
                    replace p130 := eq_true p130
                    replace q130 := eq_true q130
                    go_wp2_with (first | ((with_reducible refine gate_callee (f := 14) rfl ?_); refine goesL_ (some 19) rfl rfl Try.func14 (by kernel_rfl) rfl #[.string (rdOf ByteArray.empty l0 x5_1)] rfl (by (try simp only [List.map_toArray, List.map_cons, List.map_nil]); first | done | rfl | (simp only [List.length_drop, List.length_take]; rfl)) ?_; (with_reducible refine (hoggetref03_Good.calls k1 (rdOf ByteArray.empty l0 x5_1) true _ A5.out).mono ?_); rintro e w' ⟨rfl, ⟨nd, rfl⟩⟩; refine ⟨_, rfl, ?_⟩; have p133 : 0 ≤ (x5_1 : Int) := of_decide_eq_true (by first | (with_reducible assumption) | assumption); have q133 : x5_1 < (l0.length : Int) := of_decide_eq_true (by first | (with_reducible assumption) | assumption); obtain ⟨ad133, e133, hx133_0⟩ := Kd.at_string HR0.out x5_1 p133 q133; obtain rfl : ad130 = ad133 := (by injection e133); replace p133 := eq_true p133; replace q133 := eq_true q133))
                    go_roundg k1
                    case measure => have := HK1.out; omega
                    case rel => exact ⟨((x4_1 ++ (⟨#[110, 111, 100, 101, 95, 109, 111, 100, 117, 108, 101, 115, 47]⟩ : ByteArray)) ++ (rdOf ByteArray.empty l0 x5_1)), (wrap64 (x5_1 + 1)), (by first | rfl | (simp; done) | (simp [*]; done) | exact Go.Proofs.Ytkcfigfhbeohfaa.Aid.ret_ne _ | exact Go.Proofs.Ytkcfigfhbeohfaa.Aid.ret_eq _), (by first | rfl | (simp; done) | (simp [*]; done) | exact Go.Proofs.Ytkcfigfhbeohfaa.Aid.ret_ne _ | exact Go.Proofs.Ytkcfigfhbeohfaa.Aid.ret_eq _), H', ⟨by have := HK1.out; omega⟩, by repeat (first | exact Drawn0.refl _ | apply Drawn0.step)⟩
                  · rw [if_neg c12] at H
                    exact absurd H (by simp)
                · rw [if_neg c11] at H
                  exact absurd H (by simp)
            · replace c6 := Bool.eq_false_iff.mpr c6
              subst c6
              have H1 : (some ((⟨#[]⟩ : ByteArray), 30)) = some (r1, r2) := by rw [if_neg (show ¬ (false = true) by decide)] at H; exact H
              clear H
              have H := H1
              clear H1
              simp only [Option.some.injEq, Prod.mk.injEq] at H
              obtain ⟨rfl, rfl⟩ := H
              have p130 : 0 ≤ (x5_1 : Int) := of_decide_eq_true (by first | (with_reducible assumption) | assumption)
              have q130 : x5_1 < (l0.length : Int) := of_decide_eq_true (by first | (with_reducible assumption) | assumption)
              obtain ⟨ad130, e130, hx130_0⟩ := Kd.at_string HR0.out x5_1 p130 q130
              cases e130
              replace p130 := eq_true p130
              replace q130 := eq_true q130
              go_wp2_with (first | ((with_reducible refine gate_callee (f := 14) rfl ?_); refine goesL_ (some 19) rfl rfl Try.func14 (by kernel_rfl) rfl #[.string (rdOf ByteArray.empty l0 x5_1)] rfl (by (try simp only [List.map_toArray, List.map_cons, List.map_nil]); first | done | rfl | (simp only [List.length_drop, List.length_take]; rfl)) ?_; (with_reducible refine (hoggetref03_Good.calls k1 (rdOf ByteArray.empty l0 x5_1) false _ A5.out).mono ?_); rintro e w' ⟨rfl, ⟨nd, rfl⟩⟩; refine ⟨_, rfl, ?_⟩))
              go_ret2
              exact ⟨by first | rfl | (simp; done) | (simp [*]; done) | exact Go.Proofs.Ytkcfigfhbeohfaa.Aid.ret_ne _ | exact Go.Proofs.Ytkcfigfhbeohfaa.Aid.ret_eq _, by repeat (first | exact Drawn0.refl _ | apply Drawn0.step)⟩
          · rw [if_neg c4] at H
            exact absurd H (by simp)
        · rw [if_neg c3] at H
          have c3b0 : decide (x5_1 < (l0.length : Int)) = false := decide_eq_false c3
          clear c3
          simp only [Option.some.injEq, Prod.mk.injEq] at H
          obtain ⟨rfl, rfl⟩ := H
          go_wp2
          go_ret2
          exact ⟨by first | rfl | (simp; done) | (simp [*]; done) | exact Go.Proofs.Ytkcfigfhbeohfaa.Aid.ret_ne _ | exact Go.Proofs.Ytkcfigfhbeohfaa.Aid.ret_eq _, by repeat (first | exact Drawn0.refl _ | apply Drawn0.step)⟩

/-! ### hoggetref03_Same: function 15 -/
def hoggetref03_Same.l0 : Nat → List ByteArray → List ByteArray → Int → Option (Bool)
  | 0, _, _, _ => none
  | k + 1, x0, x1, x5 => if x5 < (x0.length : Int) then (if 0 ≤ x5 then (if x5 < (x1.length : Int) then (if (rdOf ByteArray.empty x0 x5).toList = (rdOf ByteArray.empty x1 x5).toList then (hoggetref03_Same.l0 k x0 x1 (wrap64 (x5 + 1))) else (some false)) else (none)) else (none)) else (some true)
def hoggetref03_Same.f (k : Nat) (l0 : List ByteArray) (l1 : List ByteArray) : Option (Bool) := if (l0.length : Int) = (l1.length : Int) then (hoggetref03_Same.l0 k l0 l1 0) else (some false)
theorem hoggetref03_Same.mono_l : ∀ k, (∀ y0 y1 y2, LeO (hoggetref03_Same.l0 k y0 y1 y2) (hoggetref03_Same.l0 (k + 1) y0 y1 y2))
  | 0 => fun _ _ _ r h => by simp [hoggetref03_Same.l0] at h
  | k + 1 => by
    have ih0 := hoggetref03_Same.mono_l k
    · intro y0 y1 y2
      unfold hoggetref03_Same.l0
      repeat' first
      | (with_reducible exact ih0 _ _ _)
      | (with_reducible exact LeO.refl _)
      | (with_reducible exact LeO.none _)
      | (with_reducible refine LeO.ite ?_ ?_)
      | (with_reducible refine LeO.bind ?_ (fun _ => ?_))
      | exact ih0 _ _ _
      | exact LeO.none _
      | refine LeO.ite ?_ ?_
      | refine LeO.bind ?_ (fun _ => ?_)
theorem hoggetref03_Same.mono : ∀ a0 a1 k, LeO (hoggetref03_Same.f k a0 a1) (hoggetref03_Same.f (k + 1) a0 a1) := by
  intro a0 a1 k
  have ih0 := hoggetref03_Same.mono_l k
  unfold hoggetref03_Same.f
  repeat' first
      | (with_reducible exact ih0 _ _ _)
      | (with_reducible exact LeO.refl _)
      | (with_reducible exact LeO.none _)
      | (with_reducible refine LeO.ite ?_ ?_)
      | (with_reducible refine LeO.bind ?_ (fun _ => ?_))
      | exact ih0 _ _ _
      | exact LeO.none _
      | refine LeO.ite ?_ ?_
      | refine LeO.bind ?_ (fun _ => ?_)
set_option maxHeartbeats 8000000 in
set_option maxRecDepth 100000 in
theorem hoggetref03_Same.calls (k : Nat) (A0 : Option Addr) (c0 : Nat) (l0 : List ByteArray) (A1 : Option Addr) (c1 : Nat) (l1 : List ByteArray) (r : Bool) (w : World) (hr0 : Kd.C Kd.string w A0 l0.length l0) (hc0 : l0.length ≤ c0) (hr1 : Kd.C Kd.string w A1 l1.length l1) (hc1 : l1.length ≤ c1) (h : hoggetref03_Same.f k l0 l1 = some r) :
    Calls Try.prog 15 #[.slice A0 l0.length c0, .slice A1 l1.length c1] w fun e w' => e = .returned (.bool r) ∧ Drawn0 w w' := by
  have HR0 := Aside0.mk hr0
  have HC0 := Aside0.mk hc0
  clear hr0 hc0
  have HR1 := Aside0.mk hr1
  have HC1 := Aside0.mk hc1
  clear hr1 hc1
  have H : (if (l0.length : Int) = (l1.length : Int) then (hoggetref03_Same.l0 k l0 l1 0) else (some false)) = some r := h
  clear h
  by_cases c3 : (l0.length : Int) = (l1.length : Int)
  · rw [if_pos c3] at H
    have c3b0 : ((l0.length : Int) == (l1.length : Int)) = true := beq_iff_eq.mpr c3
    have c3b1 : ((l0.length : Int) != (l1.length : Int)) = false := bne_eq_false_iff_eq.mpr c3
    have c3b2 : (l0.length == l1.length) = true := by first | simpa using c3 | (simp at c3 ⊢; omega)
    clear c3
    have H' := Aside0.mk H
    clear H
    go_enter Try.func15, Try.ntmps15
    go_wp2
    repeat (go_quiet (fail); try go_wp2)
    go_loopg [5] k (fun kq v5 w' => ∃ (x5_1 : Int), v5 = .int .i64 x5_1 ∧ Aside0 (hoggetref03_Same.l0 kq l0 l1 x5_1 = some r) ∧ Aside0 (kq ≤ k) ∧ Drawn0 w w')
    case atStart => exact ⟨(0), (by first | rfl | (simp; done) | (simp [*]; done) | exact Go.Proofs.Ytkcfigfhbeohfaa.Aid.ret_ne _ | exact Go.Proofs.Ytkcfigfhbeohfaa.Aid.ret_eq _), H', ⟨Nat.le_refl _⟩, by repeat (first | exact Drawn0.refl _ | apply Drawn0.step)⟩
    case round =>
      clear H'
      try clear c1
      try clear p2
      try clear c3
      try clear c3b0
      try clear c3b1
      try clear c3b2
      obtain ⟨x5_1, rfl, HA, HK1, ⟨m1, rfl⟩⟩ := hrel
      cases gk with
      | zero => exact absurd HA.out (by simp [hoggetref03_Same.l0])
      | succ k1 =>
        have H := HA.out
        clear HA
        simp only [hoggetref03_Same.l0] at H
        by_cases c4 : x5_1 < (l0.length : Int)
        · rw [if_pos c4] at H
          have c4b0 : decide (x5_1 < (l0.length : Int)) = true := decide_eq_true c4
          clear c4
          by_cases c5 : 0 ≤ x5_1
          · rw [if_pos c5] at H
            have c5b0 : decide (0 ≤ x5_1) = true := decide_eq_true c5
            clear c5
            by_cases c6 : x5_1 < (l1.length : Int)
            · rw [if_pos c6] at H
              have c6b0 : decide (x5_1 < (l1.length : Int)) = true := decide_eq_true c6
              clear c6
              by_cases c7 : (rdOf ByteArray.empty l0 x5_1).toList = (rdOf ByteArray.empty l1 x5_1).toList
              · rw [if_pos c7] at H
                have c7b0 : ((rdOf ByteArray.empty l0 x5_1).toList == (rdOf ByteArray.empty l1 x5_1).toList) = true := beq_iff_eq.mpr c7
                have c7b1 : ((rdOf ByteArray.empty l0 x5_1).toList != (rdOf ByteArray.empty l1 x5_1).toList) = false := bne_eq_false_iff_eq.mpr c7
                clear c7
                have H' := Aside0.mk H
                clear H
                have p134 : 0 ≤ (x5_1 : Int) := of_decide_eq_true (by first | (with_reducible assumption) | assumption)
                have q134 : x5_1 < (l0.length : Int) := of_decide_eq_true (by first | (with_reducible assumption) | assumption)
                obtain ⟨ad134, e134, hx134_0⟩ := Kd.at_string HR0.out x5_1 p134 q134
                cases e134
                replace p134 := eq_true p134
                replace q134 := eq_true q134
                have p135 : 0 ≤ (x5_1 : Int) := of_decide_eq_true (by first | (with_reducible assumption) | assumption)
                have q135 : x5_1 < (l1.length : Int) := of_decide_eq_true (by first | (with_reducible assumption) | assumption)
                obtain ⟨ad135, e135, hx135_0⟩ := Kd.at_string HR1.out x5_1 p135 q135
                cases e135
                replace p135 := eq_true p135
                replace q135 := eq_true q135
                go_wp2
                repeat (go_quiet (fail); try go_wp2)
                go_roundg k1
                case measure => have := HK1.out; omega
                case rel => exact ⟨(wrap64 (x5_1 + 1)), (by first | rfl | (simp; done) | (simp [*]; done) | exact Go.Proofs.Ytkcfigfhbeohfaa.Aid.ret_ne _ | exact Go.Proofs.Ytkcfigfhbeohfaa.Aid.ret_eq _), H', ⟨by have := HK1.out; omega⟩, by repeat (first | exact Drawn0.refl _ | apply Drawn0.step)⟩
              · rw [if_neg c7] at H
                have c7b0 : ((rdOf ByteArray.empty l0 x5_1).toList == (rdOf ByteArray.empty l1 x5_1).toList) = false := beq_eq_false_iff_ne.mpr c7
                have c7b1 : ((rdOf ByteArray.empty l0 x5_1).toList != (rdOf ByteArray.empty l1 x5_1).toList) = true := bne_iff_ne.mpr c7
                obtain rfl := Option.some.inj H
                have p134 : 0 ≤ (x5_1 : Int) := of_decide_eq_true (by first | (with_reducible assumption) | assumption)
                have q134 : x5_1 < (l0.length : Int) := of_decide_eq_true (by first | (with_reducible assumption) | assumption)
                obtain ⟨ad134, e134, hx134_0⟩ := Kd.at_string HR0.out x5_1 p134 q134
                cases e134
                replace p134 := eq_true p134
                replace q134 := eq_true q134
                have p135 : 0 ≤ (x5_1 : Int) := of_decide_eq_true (by first | (with_reducible assumption) | assumption)
                have q135 : x5_1 < (l1.length : Int) := of_decide_eq_true (by first | (with_reducible assumption) | assumption)
                obtain ⟨ad135, e135, hx135_0⟩ := Kd.at_string HR1.out x5_1 p135 q135
                cases e135
                replace p135 := eq_true p135
                replace q135 := eq_true q135
                go_wp2
                repeat (go_quiet (fail); try go_wp2)
                go_ret
                exact ⟨by first | rfl | (simp; done) | (simp [*]; done) | exact Go.Proofs.Ytkcfigfhbeohfaa.Aid.ret_ne _ | exact Go.Proofs.Ytkcfigfhbeohfaa.Aid.ret_eq _, by repeat (first | exact Drawn0.refl _ | apply Drawn0.step)⟩
            · rw [if_neg c6] at H
              exact absurd H (by simp)
          · rw [if_neg c5] at H
            exact absurd H (by simp)
        · rw [if_neg c4] at H
          have c4b0 : decide (x5_1 < (l0.length : Int)) = false := decide_eq_false c4
          clear c4
          obtain rfl := Option.some.inj H
          go_wp2
          repeat (go_quiet (fail); try go_wp2)
          go_ret
          exact ⟨by first | rfl | (simp; done) | (simp [*]; done) | exact Go.Proofs.Ytkcfigfhbeohfaa.Aid.ret_ne _ | exact Go.Proofs.Ytkcfigfhbeohfaa.Aid.ret_eq _, by repeat (first | exact Drawn0.refl _ | apply Drawn0.step)⟩
  · rw [if_neg c3] at H
    have c3b0 : ((l0.length : Int) == (l1.length : Int)) = false := beq_eq_false_iff_ne.mpr c3
    have c3b1 : ((l0.length : Int) != (l1.length : Int)) = true := bne_iff_ne.mpr c3
    have c3b2 : (l0.length == l1.length) = false := by first | simpa using c3 | (simp at c3 ⊢; omega)
    obtain rfl := Option.some.inj H
    go_enter Try.func15, Try.ntmps15
    go_wp2
    repeat (go_quiet (fail); try go_wp2)
    go_ret
    exact ⟨by first | rfl | (simp; done) | (simp [*]; done) | exact Go.Proofs.Ytkcfigfhbeohfaa.Aid.ret_ne _ | exact Go.Proofs.Ytkcfigfhbeohfaa.Aid.ret_eq _, by repeat (first | exact Drawn0.refl _ | apply Drawn0.step)⟩

/-! ### names_Split: function 16 -/
def names_Split.go (k : Nat) : List ByteArray → List ByteArray → Option (List ByteArray × Bool)
  | [], acc => some (acc, true)
  | x :: xs, acc => (names_Good.f k x).bind fun g => if g = false then some ([], false) else if 12 < acc.length + 1 then some ([], false) else names_Split.go k xs (acc ++ [x])
def names_Split.f (k : Nat) (a0 : ByteArray) : Option (List ByteArray × Bool) := if a0.size ≤ 2147483647 then names_Split.go k (Parts.partsL a0) [] else none
theorem names_Split.mono_go (k : Nat) : ∀ xs acc, LeO (names_Split.go k xs acc) (names_Split.go (k + 1) xs acc)
  | [], _ => LeO.refl _
  | x :: xs, acc => LeO.bind (names_Good.mono _ _) (fun _ => LeO.ite (LeO.refl _) (LeO.ite (LeO.refl _) (names_Split.mono_go k xs _)))
theorem names_Split.mono : ∀ a0 k, LeO (names_Split.f k a0) (names_Split.f (k + 1) a0) := by
  intro a0 k
  unfold names_Split.f
  exact LeO.ite (names_Split.mono_go k _ _) (LeO.refl _)
theorem names_Split.reads {w : World} {base : Nat} {v : Value} {xs : List ByteArray} (h : w.ownsRow base 9 1 v xs.length (xs.map Value.string)) : Kd.R Kd.string 9 w base (fun _ => True) v xs := by
  refine ⟨fun _ _ => trivial, xs.map Value.string, h, by simp [Kd.string, Kd.scalar], fun j p hj => ?_⟩
  show ((xs.map Value.string).drop (j * 1)).take 1 = [Value.string p]
  rw [Nat.mul_one, ← List.map_drop, ← List.map_take]
  have hl := (List.getElem?_eq_some_iff.1 hj).1
  rw [List.drop_eq_getElem_cons hl]
  have := (List.getElem?_eq_some_iff.1 hj).2
  simp [this]
section
open Go.Proofs.Ytkcfigfhbeohfaa.Rng Go.Proofs.Ytkcfigfhbeohfaa.Parts Lib
attribute [local go_sem] Oper.semAt_some
set_option maxRecDepth 100000 in
set_option maxHeartbeats 4000000 in
theorem names_Split.calls (k : Nat) (a0 : ByteArray) (r1 : List ByteArray) (r2 : Bool) (w : World) (h : names_Split.f k a0 = some (r1, r2)) :
    Calls Try.prog 16 #[.string a0] w fun e w' => ∃ v0_ : Value, e = .returned (.tuple #[v0_, .bool r2]) ∧ Kd.R Kd.string 9 w' w.heap.size (fun _ => True) v0_ r1 ∧ Below w.heap.size w w' := by
  unfold names_Split.f at h
  split at h
  case isFalse => cases h
  rename_i hsz
  have H := Lib.hid h
  clear h
  have hF : ∀ k, Fence.wide.fn k := fun _ => trivial
  have hD : Fence.wide.depth.isSome = false := rfl
  obtain ⟨i0, hi, hz0, hz1, hz2⟩ := info_parts info9
  refine (callsIn_wide (n := 6)).1 ?_
  refine callsIn_of_wp_marks Try.func16 rfl trivial ?_ rfl
  simp only [Try.ntmps16, List.size_toArray, List.length_cons, List.length_nil, Nat.reduceAdd, Nat.reduceSub, Array.replicate_succ, Array.replicate_zero, List.push_toArray, List.append_toArray, List.nil_append, List.cons_append]
  gi_wp2_with (gi_at_call 24; refine (callsIn_wide.2 (callsIn_wide.1 (parts_calls _ _))).mono ?_; rintro e w' ⟨rfl, rfl⟩)
  obtain ⟨L, hL⟩ : ∃ L, partsL a0 = L := ⟨_, rfl⟩
  obtain ⟨N, hN⟩ : ∃ N, w.heap.size = N := ⟨_, rfl⟩
  obtain ⟨W0, hW0⟩ : ∃ W0, ((((w.alloc (Obj.cells #[Value.slice none 0 0] 22)).alloc (Obj.cells #[Value.bool false] 4)).alloc (Obj.cells #[Value.slice none 0 0] 22)).alloc (Obj.cells #[Value.string a0] 9)) = W0 := ⟨_, rfl⟩
  have hs0 : W0.heap.size = N + 4 := by rw [← hW0, ← hN]; simp
  have b0 : Boxed W0 N 22 (.slice none 0 0) := by rw [← hW0, ← hN]; exact (((Boxed.new w _ _).alloc _).alloc _).alloc _
  have b1 : Boxed W0 (N + 1) 4 (.bool false) := by rw [← hW0, ← hN]; have := Boxed.new (w.alloc (Obj.cells #[Value.slice none 0 0] 22)) 4 (.bool false); rw [World.size_alloc] at this; exact (this.alloc _).alloc _
  have b2 : Boxed W0 (N + 2) 22 (.slice none 0 0) := by rw [← hW0, ← hN]; have := Boxed.new ((w.alloc (Obj.cells #[Value.slice none 0 0] 22)).alloc (Obj.cells #[Value.bool false] 4)) 22 (.slice none 0 0); simp only [World.size_alloc] at this; exact this.alloc _
  have b3 : Boxed W0 (N + 3) 9 (.string a0) := by rw [← hW0, ← hN]; have := Boxed.new (((w.alloc (Obj.cells #[Value.slice none 0 0] 22)).alloc (Obj.cells #[Value.bool false] 4)).alloc (Obj.cells #[Value.slice none 0 0] 22)) 9 (.string a0); simp only [World.size_alloc] at this; exact this
  have hB0 : Below N w W0 := by rw [← hW0, ← hN]; exact ((((Below.refl _ w).alloc (Nat.le_refl _) _).alloc (by simp) _).alloc (by simp; omega) _).alloc (by simp; omega) _
  have hN' : N ≤ w.heap.size := by omega
  rw [hW0, hN]
  clear hW0
  refine wpIn_iter (gf := 32) (lb := #[.pointer (some ⟨N + 1 + 1 + 1, 0, none⟩)]) rfl (enters_of Try.func32 (by kernel_rfl) rfl)
    (Bs := fun r => r = N + 3) (Kp := fun X Y => Below N X Y ∧ Y.heap[N + 3]? = X.heap[N + 3]?) (xs := L.map encS)
    (fun W hW => by rw [← hL]; exact parts1_iter a0 (N + 3) _ W hsz (boxed_same (hW.block _ (by omega)) b3) (fun _ _ h => h.2))
    (fun r h => by omega) (fun h k => ⟨h.1.trans k.1, k.2.trans h.2⟩)
    (fun W l o o' hl ho _ => ⟨(Below.refl N W).grown (grownBy_putObj' W l o') (by have := (Array.getElem?_eq_some_iff.1 ho).1; omega) (fun k e => by cases e; omega), World.putObj_heap_other (by omega)⟩)
    (fun x hx => by obtain ⟨s, _, rfl⟩ := List.mem_map.1 hx; rfl)
    (fun i W => (∃ v, Boxed W (N + 2) 22 v ∧ W.ownsRow (N + 4) 9 1 v i ((L.take i).map Value.string)) ∧ Boxed W N 22 (.slice none 0 0) ∧ Boxed W (N + 1) 4 (.bool false) ∧
      Hid (names_Split.go k (L.drop i) (L.take i) = some (r1, r2) ∧ (L.take i).length = i ∧ i ≤ 12) ∧ Below N w W)
    (fun c W => c = .ret ∧ Boxed W N 22 (.slice none 0 0) ∧ Boxed W (N + 1) 4 (.bool false) ∧ Hid (r1 = [] ∧ r2 = false) ∧ Below N w W)
    ((OwnC.ex fun v => (ownC_boxed (by omega)).and (ownC_row (by intro r hr; omega))).and ((ownC_boxed (by omega)).and ((ownC_boxed (by omega)).and ((ownC_pure _).and (ownC_below hN' (by omega) (by intro r hr; omega))))))
    (fun c => (ownC_pure _).and ((ownC_boxed (by omega)).and ((ownC_boxed (by omega)).and ((ownC_pure _).and (ownC_below hN' (by omega) (by intro r hr; omega))))))
    ⟨⟨_, b2, World.ownsRow_nil _ _ _ _⟩, b0, b1, Lib.hid ⟨by rw [← hL]; exact H.out, rfl, Nat.zero_le _⟩, hB0⟩
    (fun i a' _ => ∃ s, L[i]? = some s ∧ a' = { tmps := #[Value.string a0, undef, Value.pointer (some { block := N, off := 0 }), Value.pointer (some { block := N + 1, off := 0 }), Value.pointer (some { block := N + 1 + 1, off := 0 }), Value.string s, Value.string a0, Value.func (Fn.func 32) #[] #[Value.pointer (some { block := N + 1 + 1 + 1, off := 0 })], Value.string s, undef, undef, undef, undef, undef, undef, undef, undef, undef, undef, undef, undef, undef], defers := [] })
    (fun i a' s W W' row hs hg hr => hs) ?assign ?body ?done ?stop
  case assign =>
    intro l i x W K hx _ hK
    rw [List.getElem?_map] at hx
    obtain ⟨s, hs, rfl⟩ := Option.map_eq_some_iff.1 hx
    unfold encS
    gi_wp2
    refine hK _ _ (KeepsFrom.refl _ _) ⟨Below.refl _ _, rfl⟩ (by assumption) ⟨s, hs, rfl⟩
  case body =>
    rintro l i x a' W hl ⟨rr, hrr⟩ hx ⟨⟨v, hv, hrow⟩, hb0, hb1, HG, hB⟩ ⟨s, hs, rfl⟩
    have hWs : N + 4 ≤ W.heap.size := by have := (Array.getElem?_eq_some_iff.1 hrr).1; omega
    have hG := HG.out
    have hdrop : L.drop i = s :: L.drop (i + 1) := by
      rw [List.drop_eq_getElem_cons (List.getElem?_eq_some_iff.1 hs).1]
      rw [(List.getElem?_eq_some_iff.1 hs).2]
    have htake : L.take (i + 1) = L.take i ++ [s] := by rw [List.take_add_one, hs]; rfl
    rw [hdrop] at hG
    obtain ⟨hg, hlen, hi12⟩ := hG
    simp only [names_Split.go] at hg
    obtain ⟨g, hgood, hg2⟩ := Option.bind_eq_some_iff.1 hg
    rw [hlen] at hg2
    have C1 := Lib.hid (fun w => names_Good.calls k s g w hgood)
    have Hd := Lib.hid hdrop
    have Ht := Lib.hid htake
    have Hl := Lib.hid hlen
    have Hs := Lib.hid hs
    have hi12' : i + 1 ≤ 13 := by omega
    clear hdrop htake hlen hs hx hgood HG hg hrr
    have hcv := hv.cell
    have hc0 := hb0.cell
    have hf0 := hb0.frozen
    have hc1 := hb1.cell
    have hf1 := hb1.frozen
    have Hg := Lib.hid hg2
    clear hg2
    obtain ⟨t, ht⟩ : ∃ t : Bool, decide (12 < (i : Int) + 1) = t := ⟨_, rfl⟩
    cases g <;> cases t
    all_goals
      gi_wp2_with (first | (gi_at_builtin; refine wpListIn_append_own _ rfl _ _ 22 rfl (N + 4) 9 i0 (.string ⟨#[]⟩) 1 16 Try.underlying22 hi hz0 hz1 hz2 rfl (by decide) _ _ _ rfl (hrow.alloc _) ⟨W.heap.size, 0, none⟩ 1 1 [.string s] rfl rfl (cell_one_new _ _ _) (by simp [Value.oneCell']) (by unfold maxLen; omega) (by omega) (by simp; omega) ?_; intro v' w1 hown' hgrow _; obtain ⟨g', cap', rfl⟩ := ownsRow_succ hown'; obtain ⟨hv1, hv2, hr2, hk2, hb2, hq2, hq1⟩ := boxed_append hv (by decide) hrow hWs hown' hgrow; have hcv1 := hv1.cell; have hfv1 := hv1.frozen; have hy0 := boxed_same (hq1 N (by omega) (by omega)) hb0; have hy1 := boxed_same (hq1 (N + 1) (by omega) (by omega)) hb1; have hd0 := hy0.cell; have he0 := hy0.frozen; have hd1 := hy1.cell; have he1 := hy1.frozen; have hw0 := boxed_same (hq2 N (by omega) (by omega)) hb0; have hw1 := boxed_same (hq2 (N + 1) (by omega) (by omega)) hb1) | (gi_at_call 13; refine (CallsIn.inRound l (callsIn_wide.2 (C1.out _))).mono ?_; rintro e w' ⟨rfl, ⟨n1, rfl⟩⟩))
    · have h12 : (12 < i + 1) = False := eq_false (by have := of_decide_eq_false ht; omega)
      refine ⟨?_, rfl, ?_, ?_, Lib.hid ?_, ?_⟩
      · repeat (first | exact hk2.from _ | apply kf_set | apply kf_drewN)
      · repeat (first | exact hw0 | exact hb_of hw0 | apply bx_set | apply boxed_drewN | apply hb_drewN | (with_reducible refine hb_set ?_ (by omega) _) | (with_reducible refine Boxed.other ?_ (by omega) _))
      · repeat (first | exact hw1 | exact hb_of hw1 | apply bx_set | apply boxed_drewN | apply hb_drewN | (with_reducible refine hb_set ?_ (by omega) _) | (with_reducible refine Boxed.other ?_ (by omega) _))
      · have := Hg.out
        simp at this
        first | exact ⟨this.1.symm, this.2.symm⟩ | exact ⟨this.1, this.2⟩ | exact this
      · repeat (first | exact hB.trans (hb2 N (by omega) (by omega) (by omega)) | apply bl_drewN | refine bl_set ?_ _ _ _ (by omega))
    · have h12 : (12 < i + 1) = True := eq_true (by have := of_decide_eq_true ht; omega)
      refine ⟨?_, rfl, ?_, ?_, Lib.hid ?_, ?_⟩
      · repeat (first | exact hk2.from _ | apply kf_set | apply kf_drewN)
      · repeat (first | exact hw0 | exact hb_of hw0 | apply bx_set | apply boxed_drewN | apply hb_drewN | (with_reducible refine hb_set ?_ (by omega) _) | (with_reducible refine Boxed.other ?_ (by omega) _))
      · repeat (first | exact hw1 | exact hb_of hw1 | apply bx_set | apply boxed_drewN | apply hb_drewN | (with_reducible refine hb_set ?_ (by omega) _) | (with_reducible refine Boxed.other ?_ (by omega) _))
      · have := Hg.out
        simp at this
        first | exact ⟨this.1.symm, this.2.symm⟩ | exact ⟨this.1, this.2⟩ | exact this
      · repeat (first | exact hB.trans (hb2 N (by omega) (by omega) (by omega)) | apply bl_drewN | refine bl_set ?_ _ _ _ (by omega))
    · have h12 : ¬ (12 < i + 1) := by have := of_decide_eq_false ht; omega
      refine ⟨?_, ⟨?_, ?_⟩, ⟨_, hv2, ?_⟩, hw0, hw1, Lib.hid ⟨?_, ?_, by omega⟩, ?_⟩
      · repeat (first | exact hk2.from _ | apply kf_set | apply kf_drewN)
      · repeat (first | exact hb2 N (by omega) (by omega) (by omega) | apply bl_drewN)
      · exact hq2 _ (by omega) (by omega)
      · rw [Ht.out, List.map_append]; exact hr2
      · have := Hg.out
        simp only [Bool.true_eq_false, if_false, if_neg h12] at this
        rw [Ht.out]; exact this
      · rw [Ht.out, List.length_append, Hl.out]; rfl
      · exact bl_drewN (hB.trans (hb2 N (by omega) (by omega) (by omega))) _
    · have h12 : 12 < i + 1 := by have := of_decide_eq_true ht; omega
      refine ⟨?_, rfl, ?_, ?_, Lib.hid ?_, ?_⟩
      · repeat (first | exact hk2.from _ | apply kf_set | apply kf_drewN)
      · repeat (first | exact hw0 | exact hb_of hw0 | apply bx_set | apply boxed_drewN | apply hb_drewN | (with_reducible refine hb_set ?_ (by omega) _) | (with_reducible refine Boxed.other ?_ (by omega) _))
      · repeat (first | exact hw1 | exact hb_of hw1 | apply bx_set | apply boxed_drewN | apply hb_drewN | (with_reducible refine hb_set ?_ (by omega) _) | (with_reducible refine Boxed.other ?_ (by omega) _))
      · have := Hg.out
        simp only [Bool.true_eq_false, if_false, if_pos h12, Option.some.injEq, Prod.mk.injEq] at this
        exact ⟨this.1.symm, this.2.symm⟩
      · repeat (first | exact hB.trans (hb2 N (by omega) (by omega) (by omega)) | apply bl_drewN | refine bl_set ?_ _ _ _ (by omega))
  case done =>
    rintro D W hD ⟨⟨v, hv, hrow⟩, hb0, hb1, HG, hB⟩ hK
    have hcv := hv.cell
    have hc0 := hb0.cell
    have hf0 := hb0.frozen
    have hc1 := hb1.cell
    have hf1 := hb1.frozen
    have HR := HG.out.1
    rw [List.length_map, List.drop_length, List.take_length] at HR
    rw [List.length_map, List.take_length] at hrow
    have hR := names_Split.reads hrow
    obtain ⟨A, c, rfl⟩ := Kd.R_slice hR
    simp only [names_Split.go, Option.some.injEq, Prod.mk.injEq] at HR
    obtain ⟨rfl, rfl⟩ := HR
    gi_wp2
    obtain ⟨X, hX⟩ : ∃ X, ((W.setCell { block := N, off := 0 } (Value.slice A L.length c)).setCell { block := N + 1, off := 0 } (Value.bool true)) = X := ⟨_, rfl⟩
    have hK' : X.heap[D]? = some (.deferred (some [])) := by rw [← hX]; exact (same_set (same_set rfl (by omega)) (by omega)).trans hK
    have q0 : Boxed X N 22 (Value.slice A L.length c) := by rw [← hX]; exact (bx_set (hb_of hb0) _).other (by omega) _
    have q1 : Boxed X (N + 1) 4 (.bool true) := by rw [← hX]; exact bx_set (hb_set (hb_of hb1) (by omega) _) _
    have hBX : Below N w X := by rw [← hX]; exact bl_set (bl_set hB _ _ _ (by omega)) _ _ _ (by omega)
    have hrX : X.ownsRow (N + 4) 9 1 (Value.slice A L.length c) L.length (L.map Value.string) := by rw [← hX]; exact row_set (row_set hrow (by omega) _) (by omega) _
    rw [hX]
    clear hX
    refine ⟨by simp, .inl ⟨_, _, rfl, run_takeDeferred hK', ?_⟩⟩
    have p0 := (boxed_same (World.putObj_heap_other (o := .deferred none) (by omega : N ≠ D)) q0).cell
    have p1 := (boxed_same (World.putObj_heap_other (o := .deferred none) (by omega : N + 1 ≠ D)) q1).cell
    refine ⟨.tuple #[Value.slice A L.length c, .bool true], by simp [results, Try.f16, go_sem, p0, p1], _, rfl, Kd.R_lower (names_Split.reads (ownsRow_putObj hrX _ hK' rfl)) (by omega), ?_⟩
    rw [hN]
    exact bl_putObj hBX _ (by omega) (by have := hBX.size; omega) hK'
  case stop =>
    rintro D c W hD ⟨rfl, hb0, hb1, HG, hB⟩ hK
    obtain ⟨rfl, rfl⟩ := HG.out
    gi_wp2
    refine ⟨by simp, .inl ⟨_, _, rfl, run_takeDeferred hK, ?_⟩⟩
    have p0 := (boxed_same (World.putObj_heap_other (o := .deferred none) (by omega : N ≠ D)) hb0).cell
    have p1 := (boxed_same (World.putObj_heap_other (o := .deferred none) (by omega : N + 1 ≠ D)) hb1).cell
    refine ⟨.tuple #[Value.slice none 0 0, .bool false], by simp [results, Try.f16, go_sem, p0, p1], _, rfl, Kd.R_nil _ _ _ _ _, ?_⟩
    exact bl_putObj hB _ (by omega) (by have := hB.size; omega) hK
end

end Go.Proofs.Ytkcfigfhbeohfaa.G
