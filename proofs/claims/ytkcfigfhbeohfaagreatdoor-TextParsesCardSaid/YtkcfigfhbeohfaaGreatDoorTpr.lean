/- The scanner's quoted. -/
import Derived.Test.YtkcfigfhbeohfaaGreatDoorTpq
import Derived.Test.YtkcfigfhbeohfaaGreatDoorBld
import Derived.Test.YtkcfigfhbeohfaaGreatDoorShelf
import Derived.ScopeJumps
import Derived.WalkMore
namespace Go.Proofs.YtkcfigfhbeohfaaGreatDoor.Tp
open Go Go.RowKit Go.Proofs.YtkcfigfhbeohfaaGreatDoorW.PrintWords
section
variable {P : Program} {a : Act} {w : World} {Q : Exit → Act → World → Prop} {l : Nat} {J : Act → World → Prop}
/-- A scope in which the run jumps ahead to a label: what stands behind the label is walked from the jump on. -/
theorem wp_scope_forward {c rest : Code} (l : Nat) (hf : findLabel c l = some rest) (first : c.wp P (Exit.jump l (fun a' w' => rest.wp P (Exit.noGoto Q) a' w') Q) a w) : (Code.scope c).wp P Q a w :=
  wp_scope_jumps l _ (fun _ _ => 0) hf first (fun a w h => Code.wp_mono (fun e a' w' he => by cases e <;> first | exact he | exact (he : False).elim) h)
theorem jump_normal : Exit.jump l J Q .normal a w = Q .normal a w := rfl
theorem jump_exit (id : Nat) : Exit.jump l J Q (.exit id) a w = Q (.exit id) a w := rfl
theorem jump_ret : Exit.jump l J Q .ret a w = Q .ret a w := rfl
theorem jump_panic (ch : List PanicEntry) : Exit.jump l J Q (.panic ch) a w = Q (.panic ch) a w := rfl
theorem jump_goto : Exit.jump l J Q (.goto l) a w = J a w := propext ⟨fun h => h.2, fun h => ⟨rfl, h⟩⟩
end
section
variable {W : World} {g base : Nat} {s : ByteArray} {p : Nat} {o : List Nd} {c a : Int} {v : Value}
theorem Sc.belowB (h : Sc W g base s p o c a v) {B : Nat} {W' : World} (hb : Below B W W') (hg : g < B) (hv : ∀ k, v.ownBlock = some k → k < B) : Sc W' g base s p o c a v :=
  ⟨(hb.block _ hg).trans h.blk, own_same h.out (fun k hk => hb.block k (hv k hk)), h.le, h.ge⟩
theorem Sc.own_lt (h : Sc W g base s p o c a v) : ∀ k, v.ownBlock = some k → k < W.heap.size := by
  intro k hk
  rcases h.out.2 with ⟨rfl, _⟩ | ⟨b, cap, cur, rfl, _, hh, _⟩
  · cases hk
  · simp only [Value.ownBlock, Option.some.injEq] at hk; subst hk; exact blk_lt hh
theorem Stp.belowB {X : Nat → Prop} {W0 W1 W2 : World} {v0 v1 : Value} (h : Stp X g W0 v0 W1 v1) {B : Nat} (hb : Below B W1 W2) (hB : W0.heap.size ≤ B) : Stp X g W0 v0 W2 v1 :=
  ⟨h.kp.trans (T := fun i => B ≤ i) ⟨hb.os, hb.tape, hb.output, hb.size, fun i hi hn => hb.block i (by omega)⟩ (fun i hi ht => by omega), h.own⟩
/-- A builder stands while another block is stored into. -/
theorem isB_set {B b : Nat} {bs : List Value} (h : Lib.IsBuilder 63 5 B b bs W) {g t : Nat} {cs : Array Value} (hg : W.heap[g]? = some (.cells cs t (0, 0))) (ht : 5 ≠ t) (hb : b ≠ g) (i : Nat) (u : Value) :
    Lib.IsBuilder 63 5 B b bs (W.setCell ⟨g, i, none⟩ u) := by
  have key : ∀ pv, Lib.BuilderAt 63 5 B b pv bs W → Lib.BuilderAt 63 5 B b pv bs (W.setCell ⟨g, i, none⟩ u) := by
    rintro pv ⟨h1, v', h2, h3, h4⟩
    exact ⟨h1, v', blk_far h2 hb u, own_setCell h3 (own_ne h3 hg ht) u, h4⟩
  rcases h with h | h
  · exact .inl (key _ h)
  · exact .inr (key _ h)
theorem isB_drewN {B b : Nat} {bs : List Value} (h : Lib.IsBuilder 63 5 B b bs W) (n : Nat) : Lib.IsBuilder 63 5 B b bs (W.drewN n) := h
theorem bytes_snoc (l : List UInt8) (x : UInt8) : Lib.byteCells l ++ [.int .u8 (x.toNat : Int)] = Lib.byteCells (l ++ [x]) := by simp [Lib.byteCells]
def QRes (X : Nat → Prop) (g base : Nat) (s : ByteArray) (c a : Int) (W : World) (v : Value) (o : List Nd) (x : R (List UInt8)) (r : Ending) (W' : World) : Prop :=
  match x with
  | .ok (acc, r1) => r = .returned (.tuple #[.string ⟨acc.toArray⟩, .bool true]) ∧ Sc W' g base s (s.size - r1.length) o c a v ∧ Stp X g W v W' v
  | .error e => ∃ q, r = .returned (.tuple #[.string ⟨#[]⟩, .bool false]) ∧ Sc W' g base s q o e.1 ((s.size : Int) - e.2) v ∧ Stp X g W v W' v
theorem QRes.mk_ok {X : Nat → Prop} {W' W0 : World} {v0 : Value} {acc r1 : List UInt8} {x : R (List UInt8)} (hx : x = .ok (acc, r1)) {T : ByteArray} (hT : T = ⟨acc.toArray⟩) (h : Sc W' g base s (s.size - r1.length) o c a v0) (ht : Stp X g W0 v0 W' v0) : QRes X g base s c a W0 v0 o x (.returned (.tuple #[.string T, .bool true])) W' := by
  subst hx; subst hT; exact ⟨rfl, h, ht⟩
theorem QRes.mk_err {X : Nat → Prop} {W' W0 : World} {v0 : Value} {q : Nat} {e : Int × Nat} {x : R (List UInt8)} (hx : x = .error e) (h : Sc W' g base s q o e.1 ((s.size : Int) - e.2) v0) (ht : Stp X g W0 v0 W' v0) : QRes X g base s c a W0 v0 o x (.returned (.tuple #[.string ⟨#[]⟩, .bool false])) W' := by
  subst hx; exact ⟨q, rfl, h, ht⟩
attribute [local go_sem] jump_normal jump_exit jump_ret jump_panic jump_goto
set_option maxHeartbeats 8000000 in
set_option maxRecDepth 100000 in
theorem quoted_calls (h : Sc W g base s p o c a v) (X : Nat → Prop) (hz : s.size ≤ 70368744177664) :
    Calls Tryz.prog 23 #[.pointer (some ⟨g, 0, none⟩)] W (QRes X g base s c a W v o (quoted (rest s p))) := by
  have H := Lib.hid h
  have hp := h.le
  cases ht : takeB 34 (rest s p) with
  | error x =>
    have CT := Lib.hid (take_err h X (by omega) 34 (by decide) x ht)
    have hx : quoted (rest s p) = .error x := by unfold quoted; rw [ht]
    have HX := Lib.hid hx
    clear h ht hx
    go_enter Tryz.func23, Tryz.ntmps23
    go_wp2_with (go_at_call 42; refine CT.out.mono ?_; rintro e W1 ⟨rfl, ⟨q, hS⟩, hT⟩; have S1 := Lib.hid hS; clear hS)
    go_ret2
    exact QRes.mk_err HX.out S1.out hT
  | ok t =>
    have CT := Lib.hid (take_ok h X (by omega) 34 t ht)
    have hx : quoted (rest s p) = str t [] := by unfold quoted; rw [ht]
    obtain ⟨cc, ecc, _⟩ := takeB_ext ht
    have hrt : rest s (s.size - t.length) = t := (rest_suffix (c := cc ++ [34]) hp (by rw [ecc]; simp)).1
    have HRT := Lib.hid hrt
    have HX := Lib.hid hx
    clear h ht hx ecc hrt
    go_enter Tryz.func23, Tryz.ntmps23
    go_wp2_with (go_at_call 42; refine CT.out.mono ?_; rintro e W1 ⟨rfl, hS, hT⟩; have S1 := Lib.hid hS; have T1 := Lib.hid hT; clear hS hT)
    obtain ⟨b, hb⟩ : ∃ b, W1.heap.size = b := ⟨_, rfl⟩
    have hgb : g < b := by rw [← hb]; exact blk_lt S1.out.blk
    have hvb := Lib.hid (show ∀ k, v.ownBlock = some k → k < b by rw [← hb]; exact S1.out.own_lt)
    have hWb : W.heap.size ≤ b := by rw [← hb]; exact T1.out.kp.size
    have HB0 : Hid (Lib.IsBuilder 63 5 b b (Lib.byteCells []) (W1.alloc (.cells #[.pointer none, .slice none 0 0] 63)) ∧ b ≤ (W1.alloc (.cells #[.pointer none, .slice none 0 0] 63)).heap.size) := by
      refine Lib.hid ⟨.inl ⟨Nat.le_refl _, .slice none 0 0, ?_, own_nil _ _ _ _, by simp [Value.ownBlock]⟩, by simp; omega⟩
      rw [← hb]; exact blk_new W1 _
    rw [hb]
    go_loopg [] (s.size - (s.size - t.length)) (fun k W' => ∃ (q : Nat) (acc : List UInt8), Hid (Sc W' g base s q o c a v) ∧ Hid (Stp X g W v W' v) ∧ Hid (Lib.IsBuilder 63 5 b b (Lib.byteCells acc) W' ∧ b ≤ W'.heap.size) ∧ Hid (k = s.size - q) ∧ Hid (quoted (rest s p) = str (rest s q) acc) ∧ Hid (acc.length ≤ q))
    case atStart => exact ⟨_, [], Lib.hid (S1.out.alloc _), Lib.hid (T1.out.alloc _), HB0, Lib.hid rfl, Lib.hid (by rw [HRT.out]; exact HX.out), Lib.hid (Nat.zero_le _)⟩
    case round =>
      obtain ⟨q, acc, HS, HT, HB, HK, HR, HA⟩ := hrel
      obtain ⟨c0, c1, c2, c3, c4⟩ := HS.out.reads
      have f1 := HS.out.frz 1
      have hq := HS.out.le
      cases hc : rest s q with
      | nil =>
        obtain rfl : q = s.size := (rest_nil hq).1 hc
        have d1 : decide ((s.size : Int) < (s.size : Int)) = false := by simp
        have hr := HR.out
        rw [hc] at hr
        unfold str at hr
        have HX2 := Lib.hid hr
        have ho : odd (rest s s.size) = (11, 0) := by rw [hc]; rfl
        have HO := Lib.hid ho
        clear hr ho hc
        go_wp2_with fail
        go_quiet (fail)
        go_wp2_with (first | (go_at_call 10; refine (odd_calls (HS.out.drewN _) X).mono ?_; rintro e W5 ⟨rfl, hS5, hT5⟩; have S5 := Lib.hid hS5; clear hS5))
        go_ret2
        have h5 := S5.out
        rw [HO.out] at h5
        exact QRes.mk_err HX2.out h5 ((HT.out.drewN _).trans hT5)
      | cons x t' =>
        have hlt := rest_lt hc
        have hg := rest_get hc hlt
        have hx0 : s[q]'hlt = x := hg.1
        have HN := Lib.hid hg.2
        have hr := HR.out
        have hrl := rest_len s q
        rw [hc] at hr hrl
        rw [List.length_cons] at hrl
        have HC := Lib.hid hc
        unfold str at hr
        have d1 : decide ((q : Int) < (s.size : Int)) = true := by simp; omega
        clear hg hc
        by_cases h34 : x = 34
        · rw [if_pos h34] at hr
          subst h34
          have HX2 := Lib.hid hr
          have hle : s.size - t'.length = q + 1 := by omega
          have HLE := Lib.hid hle
          clear hr hrl hle
          go_wp2_with fail
          go_quiet (fail)
          go_wp2_with fail
          go_step3
          go_wp2_with fail
          go_quiet (fail)
          go_wp2_with (first | (go_at_call 37; refine (Tryz.Builder_String_any b b acc _ (isB_set (isB_drewN HB.out.1 _) (HS.out.drewN _).blk (by decide) (by omega) _ _) ?hw).mono ?_; (case hw => rw [World.size_setCell]; exact HB.out.2); rintro e W5 ⟨rfl, hb5⟩; have S5 := Lib.hid (((HS.out.drewN _).at_ (q + 1) (by omega)).belowB hb5 hgb hvb.out); have T5 := Lib.hid (((HT.out.drewN _).set _).belowB hb5 hWb); clear hb5))
          rw [Exit.noGoto_ret]
          go_ret2
          exact QRes.mk_ok HX2.out rfl (by rw [HLE.out]; exact S5.out) T5.out
        · have t34 : ((x.toNat : Int) == 34) = false := u8_ne (y := 34) h34
          rw [if_neg h34] at hr
          by_cases h92 : x = 92
          · rw [if_pos h92] at hr
            subst h92
            cases t' with
            | nil =>
              simp only at hr
              have e1 : (q : Int) + 1 = (s.size : Int) := by simp at hrl; omega
              have d2 : ((q : Int) + 1 == (s.size : Int)) = true := by simp; omega
              have HX2 := Lib.hid hr
              clear hr hrl e1
              go_wp2_with fail
              go_quiet (fail)
              go_wp2_with fail
              refine wp_scope_forward 0 rfl ?_
              go_wp2_with fail
              go_quiet (fail)
              go_wp2_with fail
              go_step3
              go_wp2_with fail
              rw [jump_goto]
              show Code.wp _ _ _ _ _
              go_wp2_with fail
              go_quiet (fail)
              go_wp2_with (first | (go_at_call 18; refine (stop_calls (HS.out.drewN _) X _ _).mono ?_; rintro e W5 ⟨rfl, hS5, hT5⟩; have S5 := Lib.hid hS5; clear hS5))
              rw [Exit.noGoto_ret]
              go_ret2
              exact QRes.mk_err HX2.out (by simpa using S5.out) ((HT.out.drewN _).trans hT5)
            | cons y u =>
              simp only at hr
              simp only [List.length_cons] at hrl
              have hlt2 : q + 1 < s.size := by omega
              have hgy := rest_get HN.out hlt2
              have hy0 : s[q + 1]'hlt2 = y := hgy.1
              have HN2 := Lib.hid hgy.2
              have d2 : ((q : Int) + 1 == (s.size : Int)) = false := by simp; omega
              have hq1 : (q : Int) + 1 < (s.size : Int) := by omega
              have hq2 : ((q : Int) + 1).toNat = q + 1 := by omega
              clear hgy
              by_cases hy : y = 34 ∨ y = 92
              · rw [if_pos hy] at hr
                have HRN := Lib.hid hr
                have HLN := Lib.hid hrl
                rcases hy with rfl | rfl
                · clear hr hrl
                  go_wp2_with fail
                  go_quiet (fail)
                  go_wp2_with fail
                  refine wp_scope_forward 0 rfl ?_
                  go_wp2_with fail
                  go_quiet (fail)
                  go_wp2_with fail
                  go_step3
                  go_wp2_with fail
                  rw [jump_goto]
                  show Code.wp _ _ _ _ _
                  go_wp2_with fail
                  go_quiet (fail)
                  go_wp2_with fail
                  go_quiet (fail)
                  go_wp2_with (first | (go_at_call 43; refine (Bld.writeByte b b (Lib.byteCells acc) _ _ (isB_drewN HB.out.1 _) ?hl ?hw).mono ?_; (case hl => rw [Lib.byteCells_length]; have := HA.out; omega); (case hw => exact HB.out.2); rintro e W5 ⟨rfl, hb5, hw5⟩; have S5 := Lib.hid ((HS.out.drewN _).belowB hw5 hgb hvb.out); have T5 := Lib.hid ((HT.out.drewN _).belowB hw5 hWb); have B5 : Hid (Lib.IsBuilder 63 5 b b (Lib.byteCells (acc ++ [34])) W5) := Lib.hid (.inr (by rw [← bytes_snoc]; exact hb5)); have Z5 := Lib.hid (Nat.le_trans HB.out.2 hw5.size); obtain ⟨c0, c1, c2, c3, c4⟩ := S5.out.reads; have f1 := S5.out.frz 1; clear hb5 hw5))
                  first | rw [Exit.noGoto_normal] | rw [Exit.noGoto_exit]
                  go_wp2_with fail
                  go_roundg (s.size - (q + 2))
                  case rel => exact ⟨q + 2, acc ++ [34], Lib.hid (S5.out.at_ (q + 2) (by have := HLN.out; omega)), Lib.hid (T5.out.set _), Lib.hid ⟨isB_set B5.out S5.out.blk (by decide) (by omega) _ _, by rw [World.size_setCell]; exact Z5.out⟩, Lib.hid rfl, Lib.hid (by rw [HN2.out]; exact HRN.out), Lib.hid (by have := HA.out; simp; omega)⟩
                  case measure => have := HK.out; omega
                · clear hr hrl
                  go_wp2_with fail
                  go_quiet (fail)
                  go_wp2_with fail
                  refine wp_scope_forward 0 rfl ?_
                  go_wp2_with fail
                  go_quiet (fail)
                  go_wp2_with fail
                  go_step3
                  go_wp2_with fail
                  rw [jump_goto]
                  show Code.wp _ _ _ _ _
                  go_wp2_with fail
                  go_quiet (fail)
                  go_wp2_with fail
                  go_quiet (fail)
                  go_wp2_with (first | (go_at_call 43; refine (Bld.writeByte b b (Lib.byteCells acc) _ _ (isB_drewN HB.out.1 _) ?hl ?hw).mono ?_; (case hl => rw [Lib.byteCells_length]; have := HA.out; omega); (case hw => exact HB.out.2); rintro e W5 ⟨rfl, hb5, hw5⟩; have S5 := Lib.hid ((HS.out.drewN _).belowB hw5 hgb hvb.out); have T5 := Lib.hid ((HT.out.drewN _).belowB hw5 hWb); have B5 : Hid (Lib.IsBuilder 63 5 b b (Lib.byteCells (acc ++ [92])) W5) := Lib.hid (.inr (by rw [← bytes_snoc]; exact hb5)); have Z5 := Lib.hid (Nat.le_trans HB.out.2 hw5.size); obtain ⟨c0, c1, c2, c3, c4⟩ := S5.out.reads; have f1 := S5.out.frz 1; clear hb5 hw5))
                  first | rw [Exit.noGoto_normal] | rw [Exit.noGoto_exit]
                  go_wp2_with fail
                  go_roundg (s.size - (q + 2))
                  case rel => exact ⟨q + 2, acc ++ [92], Lib.hid (S5.out.at_ (q + 2) (by have := HLN.out; omega)), Lib.hid (T5.out.set _), Lib.hid ⟨isB_set B5.out S5.out.blk (by decide) (by omega) _ _, by rw [World.size_setCell]; exact Z5.out⟩, Lib.hid rfl, Lib.hid (by rw [HN2.out]; exact HRN.out), Lib.hid (by have := HA.out; simp; omega)⟩
                  case measure => have := HK.out; omega
              · rw [if_neg hy] at hr
                have hy3 : ¬ y = 34 := fun e => hy (.inl e)
                have hy9 : ¬ y = 92 := fun e => hy (.inr e)
                have ty3 : ((y.toNat : Int) == 34) = false := u8_ne (y := 34) hy3
                have ty9 : ((y.toNat : Int) == 92) = false := u8_ne (y := 92) hy9
                by_cases hn : y = 110
                · rw [if_pos hn] at hr
                  subst hn
                  have HRN := Lib.hid hr
                  have HLN := Lib.hid hrl
                  clear hr hrl hy
                  go_wp2_with fail
                  go_quiet (fail)
                  go_wp2_with fail
                  refine wp_scope_forward 0 rfl ?_
                  go_wp2_with fail
                  go_quiet (fail)
                  go_wp2_with fail
                  go_step3
                  go_wp2_with fail
                  rw [jump_goto]
                  show Code.wp _ _ _ _ _
                  go_wp2_with fail
                  go_quiet (fail)
                  go_wp2_with fail
                  go_quiet (fail)
                  go_wp2_with (first | (go_at_call 43; refine (Bld.writeByte b b (Lib.byteCells acc) _ _ (isB_drewN HB.out.1 _) ?hl ?hw).mono ?_; (case hl => rw [Lib.byteCells_length]; have := HA.out; omega); (case hw => exact HB.out.2); rintro e W5 ⟨rfl, hb5, hw5⟩; have S5 := Lib.hid ((HS.out.drewN _).belowB hw5 hgb hvb.out); have T5 := Lib.hid ((HT.out.drewN _).belowB hw5 hWb); have B5 : Hid (Lib.IsBuilder 63 5 b b (Lib.byteCells (acc ++ [10])) W5) := Lib.hid (.inr (by rw [← bytes_snoc]; exact hb5)); have Z5 := Lib.hid (Nat.le_trans HB.out.2 hw5.size); obtain ⟨c0, c1, c2, c3, c4⟩ := S5.out.reads; have f1 := S5.out.frz 1; clear hb5 hw5))
                  first | rw [Exit.noGoto_normal] | rw [Exit.noGoto_exit]
                  go_wp2_with fail
                  go_roundg (s.size - (q + 2))
                  case rel => exact ⟨q + 2, acc ++ [10], Lib.hid (S5.out.at_ (q + 2) (by have := HLN.out; omega)), Lib.hid (T5.out.set _), Lib.hid ⟨isB_set B5.out S5.out.blk (by decide) (by omega) _ _, by rw [World.size_setCell]; exact Z5.out⟩, Lib.hid rfl, Lib.hid (by rw [HN2.out]; exact HRN.out), Lib.hid (by have := HA.out; simp; omega)⟩
                  case measure => have := HK.out; omega
                · have tyn : ((y.toNat : Int) == 110) = false := u8_ne (y := 110) hn
                  rw [if_neg hn] at hr
                  have HX2 := Lib.hid hr
                  have ho : odd (rest s q) = (10, u.length + 2) := by rw [HC.out]; simp [odd]
                  have HO := Lib.hid ho
                  clear hr hrl hy ho
                  go_wp2_with fail
                  go_quiet (fail)
                  go_wp2_with fail
                  refine wp_scope_forward 0 rfl ?_
                  go_wp2_with fail
                  go_quiet (fail)
                  go_wp2_with fail
                  go_step3
                  go_wp2_with fail
                  rw [jump_goto]
                  show Code.wp _ _ _ _ _
                  go_wp2_with fail
                  go_quiet (fail)
                  go_wp2_with fail
                  go_quiet (fail)
                  go_wp2_with (first | (go_at_call 10; refine (odd_calls (HS.out.drewN _) X).mono ?_; rintro e W5 ⟨rfl, hS5, hT5⟩; have S5 := Lib.hid hS5; clear hS5))
                  rw [Exit.noGoto_ret]
                  go_ret2
                  have h5 := S5.out
                  rw [HO.out] at h5
                  exact QRes.mk_err HX2.out h5 ((HT.out.drewN _).trans hT5)
          · have t92 : ((x.toNat : Int) == 92) = false := u8_ne (y := 92) h92
            rw [if_neg h92] at hr
            by_cases hbad : x.toNat < 32 ∨ 126 < x.toNat
            · rw [if_pos hbad] at hr
              have HX2 := Lib.hid hr
              have ho : odd (rest s q) = (10, t'.length + 1) := by rw [HC.out]; simp [odd]
              have HO := Lib.hid ho
              clear hr hrl ho
              by_cases hb3 : x.toNat < 32
              · have e3 : decide ((x.toNat : Int) < 32) = true := by simp; omega
                clear hbad
                go_wp2_with fail
                go_quiet (fail)
                go_wp2_with fail
                go_step3
                go_wp2_with fail
                go_quiet (fail)
                go_wp2_with (first | (go_at_call 10; refine (odd_calls (HS.out.drewN _) X).mono ?_; rintro e W5 ⟨rfl, hS5, hT5⟩; have S5 := Lib.hid hS5; clear hS5))
                rw [Exit.noGoto_ret]
                go_ret2
                have h5 := S5.out
                rw [HO.out] at h5
                exact QRes.mk_err HX2.out h5 ((HT.out.drewN _).trans hT5)
              · have e3 : decide ((x.toNat : Int) < 32) = false := by simp; omega
                have e4 : decide ((126 : Int) < (x.toNat : Int)) = true := by simp; omega
                clear hbad
                go_wp2_with fail
                go_quiet (fail)
                go_wp2_with fail
                go_step3
                go_wp2_with fail
                go_quiet (fail)
                go_wp2_with (first | (go_at_call 10; refine (odd_calls (HS.out.drewN _) X).mono ?_; rintro e W5 ⟨rfl, hS5, hT5⟩; have S5 := Lib.hid hS5; clear hS5))
                rw [Exit.noGoto_ret]
                go_ret2
                have h5 := S5.out
                rw [HO.out] at h5
                exact QRes.mk_err HX2.out h5 ((HT.out.drewN _).trans hT5)
            · rw [if_neg hbad] at hr
              have e3 : decide ((x.toNat : Int) < 32) = false := by simp; omega
              have e4 : decide ((126 : Int) < (x.toNat : Int)) = false := by simp; omega
              have HRN := Lib.hid hr
              have HLN := Lib.hid (show q + 1 ≤ s.size by omega)
              clear hr hrl hbad
              go_wp2_with fail
              go_quiet (fail)
              go_wp2_with fail
              go_step3
              go_wp2_with fail
              go_quiet (fail)
              go_wp2_with (first | (go_at_call 43; refine (Bld.writeByte b b (Lib.byteCells acc) _ _ (isB_drewN HB.out.1 _) ?hl ?hw).mono ?_; (case hl => rw [Lib.byteCells_length]; have := HA.out; omega); (case hw => exact HB.out.2); rintro e W5 ⟨rfl, hb5, hw5⟩; have S5 := Lib.hid ((HS.out.drewN _).belowB hw5 hgb hvb.out); have T5 := Lib.hid ((HT.out.drewN _).belowB hw5 hWb); have B5 : Hid (Lib.IsBuilder 63 5 b b (Lib.byteCells (acc ++ [x])) W5) := Lib.hid (.inr (by rw [← bytes_snoc]; exact hb5)); have Z5 := Lib.hid (Nat.le_trans HB.out.2 hw5.size); obtain ⟨c0, c1, c2, c3, c4⟩ := S5.out.reads; have f1 := S5.out.frz 1; clear hb5 hw5))
              first | rw [Exit.noGoto_normal] | rw [Exit.noGoto_exit]
              go_wp2_with fail
              go_roundg (s.size - (q + 1))
              case rel => exact ⟨q + 1, acc ++ [x], Lib.hid (S5.out.at_ (q + 1) (by have := HLN.out; omega)), Lib.hid (T5.out.set _), Lib.hid ⟨isB_set B5.out S5.out.blk (by decide) (by omega) _ _, by rw [World.size_setCell]; exact Z5.out⟩, Lib.hid rfl, Lib.hid (by rw [HN.out]; exact HRN.out), Lib.hid (by have := HA.out; simp; omega)⟩
              case measure => have := HK.out; omega
end
end Go.Proofs.YtkcfigfhbeohfaaGreatDoor.Tp
