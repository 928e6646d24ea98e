/- Texts that the claims' laws stand on, put together by a program of this session (wip/prune.py): printed functions, their walks, and plain lemmas. -/
import Derived.Lib.ItoaNum
import Derived.Lib.IndexLaws
import Derived.Test.YtijooffpjfhidaaGreatDoorRows
import Derived.Lib.LaidU8
import Derived.MakeChecks
import Derived.LaidMore
import Derived.OpenShut
import Derived.Handed
import Derived.HandedShaped
import Derived.Shelf.Vars
import Derived.Lib.SmallJoins
import Derived.WalkKit
import Derived.ProofKit
import Derived.ShutString
import Derived.ChangeOld
import Derived.SizedLaws
import Derived.ChangeArms
import Derived.SliceStrings
import Derived.DataElems
import Derived.DataReads
import Derived.WideShapes
import Derived.Test.YtijooffpjfhidaaGreatDoorD4
section
namespace Go.Proofs.YtijooffpjfhidaaGreatDoor.G
open Go.RowKit Go.Proofs.YtijooffpjfhidaaGreatDoorW.PrintWords Go.Proofs.YtijooffpjfhidaaGreatDoorW.PrintLast Go.Proofs.YtijooffpjfhidaaGreatDoorW.PrintMore
attribute [local go_sem] Go.Proofs.YtijooffpjfhidaaGreatDoor.Aid.gtr_string max2_int min2_int max_two min_two max_three min_three max_four min_four
set_option linter.unusedVariables false
set_option linter.unusedSimpArgs false
def hoggetlaw05_SpanHolds.f (k : Nat) (l0_0 : List (List (S45))) (a1_0 : Int) (a1_1 : Int) (a1_2 : Int) (a1_3 : ByteArray) : Option (Bool) := (hoggetlaw05_large.f k l0_0 a1_0 a1_1 a1_2 a1_3).bind fun t446 => (if t446 = true then (some true) else ((hoggetref05_Own.f k l0_0).bind fun t447 => ((hoggetlaw05_spans.f k).bind fun t451 => (if t451 = true then ((span_Holds.f k l0_0 a1_0 a1_1 a1_2 a1_3).bind fun t452 => ((hoggetref05_Holds.f k t447 a1_0 a1_1 a1_2 a1_3).bind fun t453 => (if (t452 == t453) = true then ((hoggetref05_Same.f k l0_0 t447).bind fun t454 => (some t454)) else (none)))) else (none)))))
def hoggetlaw05_SpanHolds.T4 : Bool × List (List Nat × List Nat) := (true, [([], []), ([0, 0], [0]), ([1], [1]), ([1], [1]), ([2, 3, 1, 1], [1, 2, 3]), ([1], [1]), ([1], [1]), ([5, 6, 4, 1], [1, 5, 6]), ([4, 7, 1], [1, 4, 7]), ([1, 8], [1, 8]), ([9, 7], [9]), ([10], [10]), ([10], [10]), ([11, 12, 10, 10], [10, 11, 12]), ([10, 13], [10, 13]), ([14, 13, 0, 1, 2, 3, 4, 5, 6, 7, 8, 9, 10, 11, 12, 13, 14], [14])])
def hoggetlaw05_SpanHolds.B4 : List Nat := [0, 1, 3, 3, 15, 3, 3, 127, 255, 511, 1023, 2047, 2047, 8191, 16383, 32767]
theorem hoggetlaw05_SpanHolds.tab4 : rtab .any (opsOf Tryz.f4 4) = hoggetlaw05_SpanHolds.T4 := by kernel_rfl
theorem hoggetlaw05_SpanHolds.bits4 : waitsOk hoggetlaw05_SpanHolds.T4.2 hoggetlaw05_SpanHolds.B4 = true := by kernel_rfl
set_option maxHeartbeats 8000000 in
set_option maxRecDepth 100000 in
theorem hoggetlaw05_SpanHolds.calls (k : Nat) (A0_0 : Option Addr) (c0_0 : Nat) (l0_0 : List (List (S45))) (a1_0 : Int) (a1_1 : Int) (a1_2 : Int) (a1_3 : ByteArray) (r : Bool) (w : World) (hr0_0 : Kd.C (Kd.slice 45 k45) w A0_0 l0_0.length l0_0) (hc0_0 : l0_0.length ≤ c0_0) (h : hoggetlaw05_SpanHolds.f k l0_0 a1_0 a1_1 a1_2 a1_3 = some r) (hLD : LD w) :
 Calls Tryz.prog 4 #[.agg #[.slice A0_0 l0_0.length c0_0], .agg #[.int .i64 a1_0, .int .i64 a1_1, .int .i64 a1_2, .string a1_3]] w fun e w' => e = .returned (.bool r) ∧ Below w.heap.size w w' := by
 have hu24 := Tryz.underlying24;have hu35 := Tryz.underlying35;have HR0_0 := Aside0.mk hr0_0;have HC0_0 := Aside0.mk hc0_0;clear hr0_0 hc0_0;have HB := Aside0.mk (Below.refl w.heap.size w);have H : ((hoggetlaw05_large.f k l0_0 a1_0 a1_1 a1_2 a1_3).bind fun t446 => (if t446 = true then (some true) else ((hoggetref05_Own.f k l0_0).bind fun t447 => ((hoggetlaw05_spans.f k).bind fun t451 => (if t451 = true then ((span_Holds.f k l0_0 a1_0 a1_1 a1_2 a1_3).bind fun t452 => ((hoggetref05_Holds.f k t447 a1_0 a1_1 a1_2 a1_3).bind fun t453 => (if (t452 == t453) = true then ((hoggetref05_Same.f k l0_0 t447).bind fun t454 => (some t454)) else (none)))) else (none)))))) = some r := h;clear h;replace H := Option.bind_eq_some_iff.mp H;obtain ⟨t446, A30, H⟩ := H;replace H : (if t446 = true then (some true) else ((hoggetref05_Own.f k l0_0).bind fun t447 => ((hoggetlaw05_spans.f k).bind fun t451 => (if t451 = true then ((span_Holds.f k l0_0 a1_0 a1_1 a1_2 a1_3).bind fun t452 => ((hoggetref05_Holds.f k t447 a1_0 a1_1 a1_2 a1_3).bind fun t453 => (if (t452 == t453) = true then ((hoggetref05_Same.f k l0_0 t447).bind fun t454 => (some t454)) else (none)))) else (none))))) = some r := H;have A3 := Aside0.mk A30;clear A30;by_cases c4 : t446 = true
 ·subst c4;(have H1 : (some true) = some r := by rw [if_pos rfl] at H; exact H);clear H;have H := H1;clear H1;obtain rfl := Option.some.inj H;(go_enter Tryz.func4, Tryz.ntmps4);go_wp2_with (first | ((with_reducible refine gate_dst (N := 2) rfl ?_); refine box_event ?hg (N := 2) ?hd (cs := #[.slice A0_0 l0_0.length c0_0]) (t := 24) ?hr ?_; (case hd => rfl); (case hg => rfl); (case hr => first | (go_simp; done) | (go_simp; rfl)); intro gb444 hg w5 hbox hb; have n0_ := Aside0.mk (below_step (sL HB.out) hb); have n1_ := Aside0.mk (hbox); have n2_ := Aside0.mk ((by rw [hg]; exact (below_size (sL HB.out)) : w.heap.size ≤ gb444)); have n3_ := Aside0.mk ((by rw [hg]; exact (below_size (sL HB.out)) : w.heap.size ≤ gb444)); clear HB; have HB := n0_; have BK444 := n1_; have GW444 := n2_; have GE444 := n3_; clear n0_ n1_ n2_ n3_; clear hb hbox hg) | ((with_reducible refine gate_dst (N := 3) rfl ?_); refine box_event ?hg (N := 3) ?hd (cs := #[.int .i64 a1_0, .int .i64 a1_1, .int .i64 a1_2, .string a1_3]) (t := 35) ?hr ?_; (case hd => rfl); (case hg => rfl); (case hr => first | (go_simp; done) | (go_simp; rfl)); intro gb445 hg w6 hbox hb; have n0_ := Aside0.mk (blk_below (g := gb444) (o := .cells #[.slice A0_0 l0_0.length c0_0] 24 (0, 0)) (sB BK444.out) hb); have n1_ := Aside0.mk (below_step (sL1 HB.out GE444.out) hb); have n2_ := Aside0.mk (hbox); have n3_ := Aside0.mk ((by rw [hg]; exact (below_size (sL1 HB.out GE444.out)) : w.heap.size ≤ gb445)); have n4_ := Aside0.mk ((by rw [hg]; exact (below_size (sL1 HB.out GE444.out)) : w.heap.size ≤ gb445)); have n5_ := Aside0.mk ((by rw [hg]; exact Nat.ne_of_lt (blk_lt (g := gb444) (o := .cells #[.slice A0_0 l0_0.length c0_0] 24 (0, 0)) (sB BK444.out)) : gb444 ≠ gb445)); have n6_ := Aside0.mk ((by rw [hg]; exact Nat.ne_of_gt (blk_lt (g := gb444) (o := .cells #[.slice A0_0 l0_0.length c0_0] 24 (0, 0)) (sB BK444.out)) : gb445 ≠ gb444)); clear BK444; clear HB; have BK444 := n0_; have HB := n1_; have BK445 := n2_; have GW445 := n3_; have GE445 := n4_; have NB444_445 := n5_; have NB445_444 := n6_; clear n0_ n1_ n2_ n3_ n4_ n5_ n6_; clear hb hbox hg; have hnb7 := NB444_445.out; have hnc7 := NB445_444.out; have hcz8_0 : w6.cell? ⟨gb444, 0, none⟩ = some (.slice A0_0 l0_0.length c0_0) := (blk_cell BK444.out 0).trans rfl; have hfz8_0 := blk_frozen BK444.out 0; have hcz9_0 : w6.cell? ⟨gb445, 0, none⟩ = some (.int .i64 a1_0) := (blk_cell BK445.out 0).trans rfl; have hcz9_1 : w6.cell? ⟨gb445, 1, none⟩ = some (.int .i64 a1_1) := (blk_cell BK445.out 1).trans rfl; have hcz9_2 : w6.cell? ⟨gb445, 2, none⟩ = some (.int .i64 a1_2) := (blk_cell BK445.out 2).trans rfl; have hcz9_3 : w6.cell? ⟨gb445, 3, none⟩ = some (.string a1_3) := (blk_cell BK445.out 3).trans rfl; have hfz9_0 := blk_frozen BK445.out 0; have hfz9_1 := blk_frozen BK445.out 1; have hfz9_2 := blk_frozen BK445.out 2; have hfz9_3 := blk_frozen BK445.out 3) | ((with_reducible refine gate_callee (f := 18) rfl ?_); refine goesL_ (some 8) rfl rfl Tryz.func18 (by kernel_rfl) rfl #[.agg #[.slice A0_0 l0_0.length c0_0], .agg #[.int .i64 a1_0, .int .i64 a1_1, .int .i64 a1_2, .string a1_3]] rfl sM ?_; (with_reducible refine (hoggetlaw05_large.calls k _ _ l0_0 a1_0 a1_1 a1_2 a1_3 true _ ?side1 ?side2 A3.out).mono ?_); (case side1 => repeat (first | exact (Kd.C_below HR0_0.out HB.out) | (with_reducible refine Kd.C_alloc ?_ _) | (with_reducible refine Kd.C_drewN ?_ _) | (with_reducible refine Kd.C_drew ?_))); (case side2 => exact HC0_0.out); rintro e w10 ⟨rfl, hb⟩; refine ⟨_, rfl, ?_⟩; have n0_ := Aside0.mk (blk_below (g := gb444) (o := .cells #[.slice A0_0 l0_0.length c0_0] 24 (0, 0)) (sB BK444.out) hb); have n1_ := Aside0.mk (blk_below (g := gb445) (o := .cells #[.int .i64 a1_0, .int .i64 a1_1, .int .i64 a1_2, .string a1_3] 35 (0, 0)) (sB BK445.out) hb); have n2_ := Aside0.mk (below_step (sL2 HB.out GE444.out GE445.out) hb); clear BK444; clear BK445; clear HB; have BK444 := n0_; have BK445 := n1_; have HB := n2_; clear n0_ n1_ n2_; (try clear hb); (try clear hb2); (try clear hk); (try clear hi)));go_ret;exact ⟨by first | rfl | (simp [errW_none, errW_some] <;> rfl) | (simp [*, errW_none, errW_some] <;> rfl), sL2 HB.out GE444.out GE445.out⟩
 ·replace c4 := Bool.eq_false_iff.mpr c4;subst c4;(have H1 : ((hoggetref05_Own.f k l0_0).bind fun t447 => ((hoggetlaw05_spans.f k).bind fun t451 => (if t451 = true then ((span_Holds.f k l0_0 a1_0 a1_1 a1_2 a1_3).bind fun t452 => ((hoggetref05_Holds.f k t447 a1_0 a1_1 a1_2 a1_3).bind fun t453 => (if (t452 == t453) = true then ((hoggetref05_Same.f k l0_0 t447).bind fun t454 => (some t454)) else (none)))) else (none)))) = some r := by rw [if_neg (show ¬ (false = true) by decide)] at H; exact H);clear H;have H := H1;clear H1;replace H := Option.bind_eq_some_iff.mp H;obtain ⟨t447, A110, H⟩ := H;replace H : ((hoggetlaw05_spans.f k).bind fun t451 => (if t451 = true then ((span_Holds.f k l0_0 a1_0 a1_1 a1_2 a1_3).bind fun t452 => ((hoggetref05_Holds.f k t447 a1_0 a1_1 a1_2 a1_3).bind fun t453 => (if (t452 == t453) = true then ((hoggetref05_Same.f k l0_0 t447).bind fun t454 => (some t454)) else (none)))) else (none))) = some r := H;have A11 := Aside0.mk A110;clear A110;replace H := Option.bind_eq_some_iff.mp H;obtain ⟨t451, A120, H⟩ := H;replace H : (if t451 = true then ((span_Holds.f k l0_0 a1_0 a1_1 a1_2 a1_3).bind fun t452 => ((hoggetref05_Holds.f k t447 a1_0 a1_1 a1_2 a1_3).bind fun t453 => (if (t452 == t453) = true then ((hoggetref05_Same.f k l0_0 t447).bind fun t454 => (some t454)) else (none)))) else (none)) = some r := H;have A12 := Aside0.mk A120;clear A120;by_cases c13 : t451 = true
  ·subst c13;(have H1 : ((span_Holds.f k l0_0 a1_0 a1_1 a1_2 a1_3).bind fun t452 => ((hoggetref05_Holds.f k t447 a1_0 a1_1 a1_2 a1_3).bind fun t453 => (if (t452 == t453) = true then ((hoggetref05_Same.f k l0_0 t447).bind fun t454 => (some t454)) else (none)))) = some r := by rw [if_pos rfl] at H; exact H);clear H;have H := H1;clear H1;replace H := Option.bind_eq_some_iff.mp H;obtain ⟨t452, A140, H⟩ := H;replace H : ((hoggetref05_Holds.f k t447 a1_0 a1_1 a1_2 a1_3).bind fun t453 => (if (t452 == t453) = true then ((hoggetref05_Same.f k l0_0 t447).bind fun t454 => (some t454)) else (none))) = some r := H;have A14 := Aside0.mk A140;clear A140;replace H := Option.bind_eq_some_iff.mp H;obtain ⟨t453, A150, H⟩ := H;replace H : (if (t452 == t453) = true then ((hoggetref05_Same.f k l0_0 t447).bind fun t454 => (some t454)) else (none)) = some r := H;have A15 := Aside0.mk A150;clear A150;by_cases c16 : (t452 == t453) = true
   ·rw [if_pos c16] at H;have c16b0 : (t452 == t453) = true := c16;(try (have c16b1 : decide (t452 = t453) = true := by simpa using c16));(try (have c16b2 : (t452 == t453) = true := by simpa using c16));clear c16;replace H := Option.bind_eq_some_iff.mp H;obtain ⟨t454, A170, H⟩ := H;replace H : (some t454) = some r := H;have A17 := Aside0.mk A170;clear A170;obtain rfl := Option.some.inj H;(go_enter Tryz.func4, Tryz.ntmps4);(try go_wp2_with (first | ((with_reducible refine gate_dst (N := 2) rfl ?_); refine box_event ?hg (N := 2) ?hd (cs := #[.slice A0_0 l0_0.length c0_0]) (t := 24) ?hr ?_; (case hd => rfl); (case hg => rfl); (case hr => first | (go_simp; done) | (go_simp; rfl)); intro gb444 hg w18 hbox hb; have n0_ := Aside0.mk (below_step (sL HB.out) hb); have n1_ := Aside0.mk (hbox); have n2_ := Aside0.mk ((by rw [hg]; exact (below_size (sL HB.out)) : w.heap.size ≤ gb444)); have n3_ := Aside0.mk ((by rw [hg]; exact (below_size (sL HB.out)) : w.heap.size ≤ gb444)); clear HB; have HB := n0_; have BK444 := n1_; have GW444 := n2_; have GE444 := n3_; clear n0_ n1_ n2_ n3_; clear hb hbox hg) | ((with_reducible refine gate_dst (N := 3) rfl ?_); refine box_event ?hg (N := 3) ?hd (cs := #[.int .i64 a1_0, .int .i64 a1_1, .int .i64 a1_2, .string a1_3]) (t := 35) ?hr ?_; (case hd => rfl); (case hg => rfl); (case hr => first | (go_simp; done) | (go_simp; rfl)); intro gb445 hg w19 hbox hb; have n0_ := Aside0.mk (blk_below (g := gb444) (o := .cells #[.slice A0_0 l0_0.length c0_0] 24 (0, 0)) (sB BK444.out) hb); have n1_ := Aside0.mk (below_step (sL1 HB.out GE444.out) hb); have n2_ := Aside0.mk (hbox); have n3_ := Aside0.mk ((by rw [hg]; exact (below_size (sL1 HB.out GE444.out)) : w.heap.size ≤ gb445)); have n4_ := Aside0.mk ((by rw [hg]; exact (below_size (sL1 HB.out GE444.out)) : w.heap.size ≤ gb445)); have n5_ := Aside0.mk ((by rw [hg]; exact Nat.ne_of_lt (blk_lt (g := gb444) (o := .cells #[.slice A0_0 l0_0.length c0_0] 24 (0, 0)) (sB BK444.out)) : gb444 ≠ gb445)); have n6_ := Aside0.mk ((by rw [hg]; exact Nat.ne_of_gt (blk_lt (g := gb444) (o := .cells #[.slice A0_0 l0_0.length c0_0] 24 (0, 0)) (sB BK444.out)) : gb445 ≠ gb444)); clear BK444; clear HB; have BK444 := n0_; have HB := n1_; have BK445 := n2_; have GW445 := n3_; have GE445 := n4_; have NB444_445 := n5_; have NB445_444 := n6_; clear n0_ n1_ n2_ n3_ n4_ n5_ n6_; clear hb hbox hg; have hnb20 := NB444_445.out; have hnc20 := NB445_444.out; have hcz21_0 : w19.cell? ⟨gb444, 0, none⟩ = some (.slice A0_0 l0_0.length c0_0) := (blk_cell BK444.out 0).trans rfl; have hfz21_0 := blk_frozen BK444.out 0; have hcz22_0 : w19.cell? ⟨gb445, 0, none⟩ = some (.int .i64 a1_0) := (blk_cell BK445.out 0).trans rfl; have hcz22_1 : w19.cell? ⟨gb445, 1, none⟩ = some (.int .i64 a1_1) := (blk_cell BK445.out 1).trans rfl; have hcz22_2 : w19.cell? ⟨gb445, 2, none⟩ = some (.int .i64 a1_2) := (blk_cell BK445.out 2).trans rfl; have hcz22_3 : w19.cell? ⟨gb445, 3, none⟩ = some (.string a1_3) := (blk_cell BK445.out 3).trans rfl; have hfz22_0 := blk_frozen BK445.out 0; have hfz22_1 := blk_frozen BK445.out 1; have hfz22_2 := blk_frozen BK445.out 2; have hfz22_3 := blk_frozen BK445.out 3) | ((with_reducible refine gate_callee (f := 18) rfl ?_); refine goesL_ (some 8) rfl rfl Tryz.func18 (by kernel_rfl) rfl #[.agg #[.slice A0_0 l0_0.length c0_0], .agg #[.int .i64 a1_0, .int .i64 a1_1, .int .i64 a1_2, .string a1_3]] rfl sM ?_; (with_reducible refine (hoggetlaw05_large.calls k _ _ l0_0 a1_0 a1_1 a1_2 a1_3 false _ ?side1 ?side2 A3.out).mono ?_); (case side1 => repeat (first | exact (Kd.C_below HR0_0.out HB.out) | (with_reducible refine Kd.C_alloc ?_ _) | (with_reducible refine Kd.C_drewN ?_ _) | (with_reducible refine Kd.C_drew ?_))); (case side2 => exact HC0_0.out); rintro e w23 ⟨rfl, hb⟩; refine ⟨_, rfl, ?_⟩; have n0_ := Aside0.mk (blk_below (g := gb444) (o := .cells #[.slice A0_0 l0_0.length c0_0] 24 (0, 0)) (sB BK444.out) hb); have n1_ := Aside0.mk (blk_below (g := gb445) (o := .cells #[.int .i64 a1_0, .int .i64 a1_1, .int .i64 a1_2, .string a1_3] 35 (0, 0)) (sB BK445.out) hb); have n2_ := Aside0.mk (below_step (sL2 HB.out GE444.out GE445.out) hb); clear BK444; clear BK445; clear HB; have BK444 := n0_; have BK445 := n1_; have HB := n2_; clear n0_ n1_ n2_; (try clear hb); (try clear hb2); (try clear hk); (try clear hi); have hcz24_0 : w23.cell? ⟨gb444, 0, none⟩ = some (.slice A0_0 l0_0.length c0_0) := (blk_cell BK444.out 0).trans rfl; have hfz24_0 := blk_frozen BK444.out 0) | ((with_reducible refine gate_callee (f := 11) rfl ?_); refine goesL_ (some 10) rfl rfl Tryz.func11 (by kernel_rfl) rfl #[.agg #[.slice A0_0 l0_0.length c0_0]] rfl sM ?_; (with_reducible refine (hoggetref05_Own.calls k _ _ l0_0 t447 _ ?side1 ?side2 A11.out).mono ?_); (case side1 => repeat (first | exact (Kd.C_below HR0_0.out HB.out) | (with_reducible refine Kd.C_alloc ?_ _) | (with_reducible refine Kd.C_drewN ?_ _) | (with_reducible refine Kd.C_drew ?_))); (case side2 => exact HC0_0.out); rintro e w25 ⟨v448, rfl, ho0, hb⟩; refine ⟨_, rfl, ?_⟩; have n0_ := Aside0.mk (Kd.S_lower ho0 (below_size (sL2 HB.out GE444.out GE445.out))); have n1_ := Aside0.mk (blk_below (g := gb444) (o := .cells #[.slice A0_0 l0_0.length c0_0] 24 (0, 0)) (sB BK444.out) hb); have n2_ := Aside0.mk (blk_below (g := gb445) (o := .cells #[.int .i64 a1_0, .int .i64 a1_1, .int .i64 a1_2, .string a1_3] 35 (0, 0)) (sB BK445.out) hb); have n3_ := Aside0.mk (below_step (sL2 HB.out GE444.out GE445.out) hb); clear BK444; clear BK445; clear HB; have HO449 := n0_; have BK444 := n1_; have BK445 := n2_; have HB := n3_; clear n0_ n1_ n2_ n3_; (try clear hb); (try clear hb2); (try clear hk); (try clear hi); (try clear ho0)) | ((with_reducible refine gate_dst (N := 5) rfl ?_); refine box_event ?hg (N := 5) ?hd (cs := #[.slice none 0 0]) (t := 24) ?hr ?_; (case hd => rfl); (case hg => rfl); (case hr => first | (go_simp; done) | (go_simp; rfl)); intro gb450 hg w26 hbox hb; have n0_ := Aside0.mk (Kd.S_below (sS HO449.out) hb); have n1_ := Aside0.mk (blk_below (g := gb444) (o := .cells #[.slice A0_0 l0_0.length c0_0] 24 (0, 0)) (sB BK444.out) hb); have n2_ := Aside0.mk (blk_below (g := gb445) (o := .cells #[.int .i64 a1_0, .int .i64 a1_1, .int .i64 a1_2, .string a1_3] 35 (0, 0)) (sB BK445.out) hb); have n3_ := Aside0.mk (below_step (sL2 HB.out GE444.out GE445.out) hb); have n4_ := Aside0.mk (hbox); have n5_ := Aside0.mk ((by rw [hg]; exact (below_size (sL2 HB.out GE444.out GE445.out)) : w.heap.size ≤ gb450)); have n6_ := Aside0.mk ((by rw [hg]; exact (below_size (sL2 HB.out GE444.out GE445.out)) : w.heap.size ≤ gb450)); have n7_ := Aside0.mk ((by rw [hg]; exact Nat.ne_of_lt (blk_lt (g := gb444) (o := .cells #[.slice A0_0 l0_0.length c0_0] 24 (0, 0)) (sB BK444.out)) : gb444 ≠ gb450)); have n8_ := Aside0.mk ((by rw [hg]; exact Nat.ne_of_gt (blk_lt (g := gb444) (o := .cells #[.slice A0_0 l0_0.length c0_0] 24 (0, 0)) (sB BK444.out)) : gb450 ≠ gb444)); have n9_ := Aside0.mk ((by rw [hg]; exact Nat.ne_of_lt (blk_lt (g := gb445) (o := .cells #[.int .i64 a1_0, .int .i64 a1_1, .int .i64 a1_2, .string a1_3] 35 (0, 0)) (sB BK445.out)) : gb445 ≠ gb450)); have n10_ := Aside0.mk ((by rw [hg]; exact Nat.ne_of_gt (blk_lt (g := gb445) (o := .cells #[.int .i64 a1_0, .int .i64 a1_1, .int .i64 a1_2, .string a1_3] 35 (0, 0)) (sB BK445.out)) : gb450 ≠ gb445)); clear HO449; clear BK444; clear BK445; clear HB; have HO449 := n0_; have BK444 := n1_; have BK445 := n2_; have HB := n3_; have BK450 := n4_; have GW450 := n5_; have GE450 := n6_; have NB444_450 := n7_; have NB450_444 := n8_; have NB445_450 := n9_; have NB450_445 := n10_; clear n0_ n1_ n2_ n3_ n4_ n5_ n6_ n7_ n8_ n9_ n10_; clear hb hbox hg; obtain ⟨Ao27, co27, eo27⟩ := Kd.S_slice HO449.out; subst eo27; have hnb28 := NB450_444.out; have hnc28 := NB444_450.out; have hnb29 := NB450_445.out; have hnc29 := NB445_450.out; have hcz30_0 : w26.cell? ⟨gb450, 0, none⟩ = some (.slice none 0 0) := (blk_cell BK450.out 0).trans rfl; have hfz30_0 := blk_frozen BK450.out 0)))
    have n0_ : Aside0 (Kd.S (Kd.slice 45 k45) 38 (w26.setCell ⟨gb450, 0, none⟩ (.slice Ao27 t447.length co27)) w.heap.size (fun _ => True) (.slice Ao27 t447.length co27) t447) := ⟨by (with_reducible repeat (first | apply Kd.S_alloc | apply Kd.S_drewN | apply Kd.S_drew)); exact Kd.S_mono (Kd.S_far (p := ⟨gb450, 0, none⟩) (Kd.S_types HO449.out BK450.out (by decide)) (fun _ hk => hk.2) (.slice Ao27 t447.length co27)) (fun _ hk => trivial)⟩
    have n1_ : Aside0 ((w26.setCell ⟨gb450, 0, none⟩ (.slice Ao27 t447.length co27)).heap[gb444]? = some (.cells #[.slice A0_0 l0_0.length c0_0] 24 (0, 0))) := ⟨by (with_reducible repeat (first | refine blk_drewN ?_ _ | refine blk_drew ?_ | refine blk_alloc ?_ _)); refine blk_far ?_ NB444_450.out _; (with_reducible repeat (first | refine blk_drewN ?_ _ | refine blk_drew ?_ | refine blk_alloc ?_ _)); exact BK444.out⟩
    have n2_ : Aside0 ((w26.setCell ⟨gb450, 0, none⟩ (.slice Ao27 t447.length co27)).heap[gb445]? = some (.cells #[.int .i64 a1_0, .int .i64 a1_1, .int .i64 a1_2, .string a1_3] 35 (0, 0))) := ⟨by (with_reducible repeat (first | refine blk_drewN ?_ _ | refine blk_drew ?_ | refine blk_alloc ?_ _)); refine blk_far ?_ NB445_450.out _; (with_reducible repeat (first | refine blk_drewN ?_ _ | refine blk_drew ?_ | refine blk_alloc ?_ _)); exact BK445.out⟩
    have n3_ : Aside0 ((w26.setCell ⟨gb450, 0, none⟩ (.slice Ao27 t447.length co27)).heap[gb450]? = some (.cells #[.slice Ao27 t447.length co27] 24 (0, 0))) := ⟨by (with_reducible repeat (first | refine blk_drewN ?_ _ | refine blk_drew ?_ | refine blk_alloc ?_ _)); refine blk_put (cs := #[.slice none 0 0]) ?_ 0 _ rfl; (with_reducible repeat (first | refine blk_drewN ?_ _ | refine blk_drew ?_ | refine blk_alloc ?_ _)); exact BK450.out⟩
    have n4_ : Aside0 (Below w.heap.size w (w26.setCell ⟨gb450, 0, none⟩ (.slice Ao27 t447.length co27))) := ⟨sL3 HB.out GE444.out GE445.out GE450.out⟩
    (try clear HO449);(try clear BK444);(try clear BK445);(try clear BK450);(try clear HB);generalize (w26.setCell ⟨gb450, 0, none⟩ (.slice Ao27 t447.length co27)) = w31 at n0_ n1_ n2_ n3_ n4_ ⊢;have HO449 := n0_;have BK444 := n1_;have BK445 := n2_;have BK450 := n3_;have HB := n4_;clear n0_ n1_ n2_ n3_ n4_;have n0_ := Aside0.mk (Kd.S_drew HO449.out);have n1_ := Aside0.mk (blk_drew BK444.out);have n2_ := Aside0.mk (blk_drew BK445.out);have n3_ := Aside0.mk (blk_drew BK450.out);have n4_ := Aside0.mk (below_drew1 HB.out);clear HO449;clear BK444;clear BK445;clear BK450;clear HB;have HO449 := n0_;have BK444 := n1_;have BK445 := n2_;have BK450 := n3_;have HB := n4_;clear n0_ n1_ n2_ n3_ n4_;(refine start_ (n := 16) (S := fun w' => w'.cell? ⟨gb444, 0, none⟩ = some (.slice A0_0 l0_0.length c0_0) ∧ w'.cell? ⟨gb445, 0, none⟩ = some (.int .i64 a1_0) ∧ w'.cell? ⟨gb445, 1, none⟩ = some (.int .i64 a1_1) ∧ w'.cell? ⟨gb445, 2, none⟩ = some (.int .i64 a1_2) ∧ w'.cell? ⟨gb445, 3, none⟩ = some (.string a1_3) ∧ w'.cell? ⟨gb450, 0, none⟩ = some (.slice Ao27 t447.length co27)) (ds := []) #[false, false, false, false, false, false, false, false, false, false, false, false, false, false, false, false] (by kernel_rfl) rfl rfl ⟨(blk_cell BK444.out 0).trans rfl, (blk_cell BK445.out 0).trans rfl, (blk_cell BK445.out 1).trans rfl, (blk_cell BK445.out 2).trans rfl, (blk_cell BK445.out 3).trans rfl, (blk_cell BK450.out 0).trans rfl⟩ (fun hHeld => ?_); refine with_tabW hoggetlaw05_SpanHolds.tab4 hoggetlaw05_SpanHolds.bits4 (fun HT_ HW_ => ?_));generalize w31.drew = w32 at HO449 BK444 BK445 BK450 HB hHeld ⊢;refine one_ (i := 0) (N := some 11) #[true, false, false, false, false, false, false, false, false, false, false, false, false, false, false, false] rfl rfl (one_of HT_.out (by kernel_rfl)) (by decide) (fun K hK => ?_);refine goes_ Tryz.func16 (by kernel_rfl) rfl #[] (by rfl) rfl rfl sM ?_;(with_reducible refine (hoggetlaw05_spans.calls k  true _ A12.out (by first | exact hLD | exact LD.below hLD (by repeat (first | exact HB.out | exact Below.refl _ _ | exact Aside0.out (by assumption) | apply below_alloc | apply pw_below_drewN | apply below_drew1 | refine below_set ?_ ?_)))).mono ?_);rintro e w33 ⟨rfl, hb⟩;refine ⟨_, rfl, ?_⟩;have n0_ := Aside0.mk (Kd.S_below (sS HO449.out) hb);have n1_ := Aside0.mk (blk_below (g := gb444) (o := .cells #[.slice A0_0 l0_0.length c0_0] 24 (0, 0)) (sB BK444.out) hb);have n2_ := Aside0.mk (blk_below (g := gb445) (o := .cells #[.int .i64 a1_0, .int .i64 a1_1, .int .i64 a1_2, .string a1_3] 35 (0, 0)) (sB BK445.out) hb);have n3_ := Aside0.mk (blk_below (g := gb450) (o := .cells #[.slice Ao27 t447.length co27] 24 (0, 0)) (sB BK450.out) hb);have n4_ := Aside0.mk (below_step (sL3 HB.out GE444.out GE445.out GE450.out) hb);clear HO449;clear BK444;clear BK445;clear BK450;clear HB;have HO449 := n0_;have BK444 := n1_;have BK445 := n2_;have BK450 := n3_;have HB := n4_;clear n0_ n1_ n2_ n3_ n4_;(try clear hb);(try clear hb2);(try clear hk);(try clear hi);refine hK.out _ _ ⟨(blk_cell BK444.out 0).trans rfl, (blk_cell BK445.out 0).trans rfl, (blk_cell BK445.out 1).trans rfl, (blk_cell BK445.out 2).trans rfl, (blk_cell BK445.out 3).trans rfl, (blk_cell BK450.out 0).trans rfl⟩ (fun hHeld => ?_);clear hK K;refine norm_ (a' := ?_) ?_ ?_;rotate_left
    ·show Act.put _ (some 11) _ = _;exact sP
    refine pure_ (i := 1) (N := some 12) (v := ?_) (a' := ?_) #[true, true, false, false, false, false, false, false, false, false, false, false, false, false, false, false] rfl rfl (any_of HT_.out (by kernel_rfl)) (fun _ _ _ h => h) (Or.inl ⟨by rfl, ?_⟩) ?_ ?_;rotate_left
    ·intro w';go_simp;(with_reducible rfl)
    rotate_left
    ·exact sP
    refine take_ (i := 2) (N := some 13) (v := ?_) (a' := ?_) #[true, true, true, false, false, false, false, false, false, false, false, false, false, false, false, false] rfl rfl (take_ofW HT_.out HW_.out (by kernel_rfl)) (fun _ _ _ h => h) (Or.inl ⟨by rfl, ?_⟩) hHeld ?_ ?_;rotate_left
    ·rintro w' ⟨s0, s1, s2, s3, s4, s5⟩;go_simp;(with_reducible rfl)
    rotate_left
    ·exact sP
    refine take_ (i := 3) (N := some 14) (v := ?_) (a' := ?_) #[true, true, true, true, false, false, false, false, false, false, false, false, false, false, false, false] rfl rfl (take_ofW HT_.out HW_.out (by kernel_rfl)) (fun _ _ _ h => h) (Or.inl ⟨by rfl, ?_⟩) hHeld ?_ ?_;rotate_left
    ·rintro w' ⟨s0, s1, s2, s3, s4, s5⟩;go_simp;(with_reducible rfl)
    rotate_left
    ·exact sP
    refine take_ (i := 5) (N := some 16) (v := ?_) (a' := ?_) #[true, true, true, true, false, true, false, false, false, false, false, false, false, false, false, false] rfl rfl (take_ofW HT_.out HW_.out (by kernel_rfl)) (fun _ _ _ h => h) (Or.inl ⟨by rfl, ?_⟩) hHeld ?_ ?_;rotate_left
    ·rintro w' ⟨s0, s1, s2, s3, s4, s5⟩;go_simp;(with_reducible rfl)
    rotate_left
    ·exact sP
    refine take_ (i := 6) (N := some 17) (v := ?_) (a' := ?_) #[true, true, true, true, false, true, true, false, false, false, false, false, false, false, false, false] rfl rfl (take_ofW HT_.out HW_.out (by kernel_rfl)) (fun _ _ _ h => h) (Or.inl ⟨by rfl, ?_⟩) hHeld ?_ ?_;rotate_left
    ·rintro w' ⟨s0, s1, s2, s3, s4, s5⟩;go_simp;(with_reducible rfl)
    rotate_left
    ·exact sP
    refine one_ (i := 4) (N := some 15) #[true, true, true, true, true, true, true, false, false, false, false, false, false, false, false, false] rfl rfl (one_of HT_.out (by kernel_rfl)) (by decide) (fun K hK => ?_);refine goes_ Tryz.func19 (by kernel_rfl) rfl #[.agg #[.slice A0_0 l0_0.length c0_0], .agg #[.int .i64 a1_0, .int .i64 a1_1, .int .i64 a1_2, .string a1_3]] (by rfl) rfl rfl sM ?_;(with_reducible refine (span_Holds.calls k _ _ l0_0 a1_0 a1_1 a1_2 a1_3 t452 _ ?side1 ?side2 A14.out (by first | exact hLD | exact LD.below hLD (by repeat (first | exact HB.out | exact Below.refl _ _ | exact Aside0.out (by assumption) | apply below_alloc | apply pw_below_drewN | apply below_drew1 | refine below_set ?_ ?_)))).mono ?_);(case side1 => repeat (first | exact (Kd.C_below HR0_0.out HB.out) | (with_reducible refine Kd.C_alloc ?_ _) | (with_reducible refine Kd.C_drewN ?_ _) | (with_reducible refine Kd.C_drew ?_)));(case side2 => exact HC0_0.out);rintro e w34 ⟨rfl, hb⟩;refine ⟨_, rfl, ?_⟩;have n0_ := Aside0.mk (Kd.S_below (sS HO449.out) hb);have n1_ := Aside0.mk (blk_below (g := gb444) (o := .cells #[.slice A0_0 l0_0.length c0_0] 24 (0, 0)) (sB BK444.out) hb);have n2_ := Aside0.mk (blk_below (g := gb445) (o := .cells #[.int .i64 a1_0, .int .i64 a1_1, .int .i64 a1_2, .string a1_3] 35 (0, 0)) (sB BK445.out) hb);have n3_ := Aside0.mk (blk_below (g := gb450) (o := .cells #[.slice Ao27 t447.length co27] 24 (0, 0)) (sB BK450.out) hb);have n4_ := Aside0.mk (below_step (sL3 HB.out GE444.out GE445.out GE450.out) hb);clear HO449;clear BK444;clear BK445;clear BK450;clear HB;have HO449 := n0_;have BK444 := n1_;have BK445 := n2_;have BK450 := n3_;have HB := n4_;clear n0_ n1_ n2_ n3_ n4_;(try clear hb);(try clear hb2);(try clear hk);(try clear hi);refine hK.out _ _ ⟨(blk_cell BK444.out 0).trans rfl, (blk_cell BK445.out 0).trans rfl, (blk_cell BK445.out 1).trans rfl, (blk_cell BK445.out 2).trans rfl, (blk_cell BK445.out 3).trans rfl, (blk_cell BK450.out 0).trans rfl⟩ (fun hHeld => ?_);clear hK K;refine norm_ (a' := ?_) ?_ ?_;rotate_left
    ·show Act.put _ (some 15) _ = _;exact sP
    refine one_ (i := 7) (N := some 18) #[true, true, true, true, true, true, true, true, false, false, false, false, false, false, false, false] rfl rfl (one_of HT_.out (by kernel_rfl)) (by decide) (fun K hK => ?_);refine goes_ Tryz.func20 (by kernel_rfl) rfl #[.agg #[.slice Ao27 t447.length co27], .agg #[.int .i64 a1_0, .int .i64 a1_1, .int .i64 a1_2, .string a1_3]] (by rfl) rfl rfl sM ?_;(with_reducible refine (hoggetref05_Holds.calls k _ _ t447 a1_0 a1_1 a1_2 a1_3 t453 _ ?side1 ?side2 A15.out).mono ?_);(case side1 => repeat (first | exact (Kd.S_reads' HO449.out).2.2 | (with_reducible refine Kd.C_alloc ?_ _) | (with_reducible refine Kd.C_drewN ?_ _) | (with_reducible refine Kd.C_drew ?_)));(case side2 => exact (Kd.S_reads' HO449.out).2.1);rintro e w35 ⟨rfl, hb⟩;refine ⟨_, rfl, ?_⟩;have n0_ := Aside0.mk (Kd.S_below (sS HO449.out) hb);have n1_ := Aside0.mk (blk_below (g := gb444) (o := .cells #[.slice A0_0 l0_0.length c0_0] 24 (0, 0)) (sB BK444.out) hb);have n2_ := Aside0.mk (blk_below (g := gb445) (o := .cells #[.int .i64 a1_0, .int .i64 a1_1, .int .i64 a1_2, .string a1_3] 35 (0, 0)) (sB BK445.out) hb);have n3_ := Aside0.mk (blk_below (g := gb450) (o := .cells #[.slice Ao27 t447.length co27] 24 (0, 0)) (sB BK450.out) hb);have n4_ := Aside0.mk (below_step (sL3 HB.out GE444.out GE445.out GE450.out) hb);clear HO449;clear BK444;clear BK445;clear BK450;clear HB;have HO449 := n0_;have BK444 := n1_;have BK445 := n2_;have BK450 := n3_;have HB := n4_;clear n0_ n1_ n2_ n3_ n4_;(try clear hb);(try clear hb2);(try clear hk);(try clear hi);refine hK.out _ _ ⟨(blk_cell BK444.out 0).trans rfl, (blk_cell BK445.out 0).trans rfl, (blk_cell BK445.out 1).trans rfl, (blk_cell BK445.out 2).trans rfl, (blk_cell BK445.out 3).trans rfl, (blk_cell BK450.out 0).trans rfl⟩ (fun hHeld => ?_);clear hK K;refine norm_ (a' := ?_) ?_ ?_;rotate_left
    ·show Act.put _ (some 18) _ = _;exact sP
    refine pure_ (i := 8) (N := some 19) (v := ?_) (a' := ?_) #[true, true, true, true, true, true, true, true, true, false, false, false, false, false, false, false] rfl rfl (any_of HT_.out (by kernel_rfl)) (fun _ _ _ h => h) (Or.inl ⟨by rfl, ?_⟩) ?_ ?_;rotate_left
    ·intro w';go_simp;(with_reducible rfl)
    rotate_left
    ·exact sP
    refine pure_ (i := 9) (N := some 20) (v := ?_) (a' := ?_) #[true, true, true, true, true, true, true, true, true, true, false, false, false, false, false, false] rfl rfl (any_of HT_.out (by kernel_rfl)) (fun _ _ _ h => h) (Or.inl ⟨by rfl, ?_⟩) ?_ ?_;rotate_left
    ·intro w';go_simp;(with_reducible rfl)
    rotate_left
    ·exact sP
    refine pure_ (i := 10) (N := some 21) (v := ?_) (a' := ?_) #[true, true, true, true, true, true, true, true, true, true, true, false, false, false, false, false] rfl rfl (any_of HT_.out (by kernel_rfl)) (fun _ _ _ h => h) (Or.inl ⟨by rfl, ?_⟩) ?_ ?_;rotate_left
    ·intro w';go_simp;(with_reducible rfl)
    rotate_left
    ·exact sP
    refine take_ (i := 11) (N := some 22) (v := ?_) (a' := ?_) #[true, true, true, true, true, true, true, true, true, true, true, true, false, false, false, false] rfl rfl (take_ofW HT_.out HW_.out (by kernel_rfl)) (fun _ _ _ h => h) (Or.inl ⟨by rfl, ?_⟩) hHeld ?_ ?_;rotate_left
    ·rintro w' ⟨s0, s1, s2, s3, s4, s5⟩;go_simp;(with_reducible rfl)
    rotate_left
    ·exact sP
    refine take_ (i := 12) (N := some 23) (v := ?_) (a' := ?_) #[true, true, true, true, true, true, true, true, true, true, true, true, true, false, false, false] rfl rfl (take_ofW HT_.out HW_.out (by kernel_rfl)) (fun _ _ _ h => h) (Or.inl ⟨by rfl, ?_⟩) hHeld ?_ ?_;rotate_left
    ·rintro w' ⟨s0, s1, s2, s3, s4, s5⟩;go_simp;(with_reducible rfl)
    rotate_left
    ·exact sP
    refine one_ (i := 13) (N := some 24) #[true, true, true, true, true, true, true, true, true, true, true, true, true, true, false, false] rfl rfl (one_of HT_.out (by kernel_rfl)) (by decide) (fun K hK => ?_);refine goes_ Tryz.func17 (by kernel_rfl) rfl #[.agg #[.slice A0_0 l0_0.length c0_0], .agg #[.slice Ao27 t447.length co27]] (by rfl) rfl rfl sM ?_;(with_reducible refine (hoggetref05_Same.calls k _ _ l0_0 _ _ t447 t454 _ ?side1 ?side2 ?side3 ?side4 A17.out).mono ?_);(case side1 => repeat (first | exact (Kd.C_below HR0_0.out HB.out) | (with_reducible refine Kd.C_alloc ?_ _) | (with_reducible refine Kd.C_drewN ?_ _) | (with_reducible refine Kd.C_drew ?_)));(case side2 => exact HC0_0.out);(case side3 => repeat (first | exact (Kd.S_reads' HO449.out).2.2 | (with_reducible refine Kd.C_alloc ?_ _) | (with_reducible refine Kd.C_drewN ?_ _) | (with_reducible refine Kd.C_drew ?_)));(case side4 => exact (Kd.S_reads' HO449.out).2.1);rintro e w36 ⟨rfl, hb⟩;refine ⟨_, rfl, ?_⟩;have n0_ := Aside0.mk (Kd.S_below (sS HO449.out) hb);have n1_ := Aside0.mk (blk_below (g := gb444) (o := .cells #[.slice A0_0 l0_0.length c0_0] 24 (0, 0)) (sB BK444.out) hb);have n2_ := Aside0.mk (blk_below (g := gb445) (o := .cells #[.int .i64 a1_0, .int .i64 a1_1, .int .i64 a1_2, .string a1_3] 35 (0, 0)) (sB BK445.out) hb);have n3_ := Aside0.mk (blk_below (g := gb450) (o := .cells #[.slice Ao27 t447.length co27] 24 (0, 0)) (sB BK450.out) hb);have n4_ := Aside0.mk (below_step (sL3 HB.out GE444.out GE445.out GE450.out) hb);clear HO449;clear BK444;clear BK445;clear BK450;clear HB;have HO449 := n0_;have BK444 := n1_;have BK445 := n2_;have BK450 := n3_;have HB := n4_;clear n0_ n1_ n2_ n3_ n4_;(try clear hb);(try clear hb2);(try clear hk);(try clear hi);refine hK.out _ _ ⟨(blk_cell BK444.out 0).trans rfl, (blk_cell BK445.out 0).trans rfl, (blk_cell BK445.out 1).trans rfl, (blk_cell BK445.out 2).trans rfl, (blk_cell BK445.out 3).trans rfl, (blk_cell BK450.out 0).trans rfl⟩ (fun hHeld => ?_);clear hK K;refine norm_ (a' := ?_) ?_ ?_;rotate_left
    ·show Act.put _ (some 24) _ = _;exact sP
    refine pure_ (i := 14) (N := some 25) (v := ?_) (a' := ?_) #[true, true, true, true, true, true, true, true, true, true, true, true, true, true, true, false] rfl rfl (any_of HT_.out (by kernel_rfl)) (fun _ _ _ h => h) (Or.inl ⟨by rfl, ?_⟩) ?_ ?_;rotate_left
    ·intro w';go_simp;(with_reducible rfl)
    rotate_left
    ·exact sP
    refine pure_ (i := 15) (N := some 4) (v := ?_) (a' := ?_) #[true, true, true, true, true, true, true, true, true, true, true, true, true, true, true, true] rfl rfl (any_of HT_.out (by kernel_rfl)) (fun _ _ _ h => h) (Or.inl ⟨by rfl, ?_⟩) ?_ ?_;rotate_left
    ·intro w';go_simp;(with_reducible rfl)
    rotate_left
    ·exact sP
    refine done_ (done_of HT_.out (by kernel_rfl)) ?_;(try go_wp2);go_ret;exact ⟨by first | rfl | (simp [errW_none, errW_some] <;> rfl) | (simp [*, errW_none, errW_some] <;> rfl), sL3 HB.out GE444.out GE445.out GE450.out⟩
   ·rw [if_neg c16] at H;(have c16b0 : (t452 == t453) = false := by simpa using c16);(try (have c16b1 : decide (t452 = t453) = false := by simpa using c16));(try (have c16b2 : (t452 == t453) = false := by simpa using c16));(try (have c16b3 : ¬ (t452 = t453) := by simpa using c16));clear c16;exact absurd H (by simp)
  ·replace c13 := Bool.eq_false_iff.mpr c13;subst c13;(have H1 : (none) = some r := by rw [if_neg (show ¬ (false = true) by decide)] at H; exact H);clear H;have H := H1;clear H1;exact absurd H (by simp)
end Go.Proofs.YtijooffpjfhidaaGreatDoor.G
end
section
namespace Go.Proofs.YtijooffpjfhidaaGreatDoor.Vp
open Go Go.RowKit Go.Proofs.YtijooffpjfhidaaGreatDoor.Txt Go.Proofs.YtijooffpjfhidaaGreatDoor.Trim Go.Proofs.YtijooffpjfhidaaGreatDoor.Num
def numF (n : Nat) (c : UInt8) : Nat := n * 10 + (c.toNat - 48)
def numV (l : List UInt8) : Nat := l.foldl numF 0
theorem numV_snoc (l : List UInt8) (c : UInt8) : numV (l ++ [c]) = numV l * 10 + (c.toNat - 48) := by simp [numV, numF]
theorem dig_iff {c : UInt8} : dig c = true ↔ 48 ≤ c.toNat ∧ c.toNat ≤ 57 := by unfold dig; simp
theorem fold_lt : ∀ (l : List UInt8) (acc : Nat), l.all dig = true → l.foldl numF acc < (acc + 1) * 10 ^ l.length
  | [], acc, _ => by simp
  | c :: r, acc, h => by
    rw [List.all_cons, Bool.and_eq_true] at h
    have hd := dig_iff.1 h.1
    rw [List.foldl_cons, List.length_cons, Nat.pow_succ]
    have h1 := fold_lt r (numF acc c) h.2
    have h2 : numF acc c + 1 ≤ (acc + 1) * 10 := by unfold numF; omega
    have h3 := Nat.mul_le_mul_right (10 ^ r.length) h2
    have h4 : (acc + 1) * 10 * 10 ^ r.length = (acc + 1) * (10 ^ r.length * 10) := by rw [Nat.mul_assoc, Nat.mul_comm 10]
    omega
theorem numV_lt {l : List UInt8} (h : l.all dig = true) : numV l < 10 ^ l.length := by have := fold_lt l 0 h; simpa [numV] using this
theorem parse10 : ∀ (l : List UInt8) (acc : Nat), l.all dig = true → (acc + 1) * 10 ^ l.length ≤ 1000000000000000000 → Lib.parseUint10 acc l = .ok (l.foldl numF acc)
  | [], acc, _, _ => rfl
  | c :: r, acc, h, hb => by
    rw [List.all_cons, Bool.and_eq_true] at h
    have hd := dig_iff.1 h.1
    have hp : 1 ≤ 10 ^ r.length := Nat.one_le_pow _ _ (by decide)
    rw [List.length_cons, Nat.pow_succ] at hb
    have h4 : (acc + 1) * 10 * 10 ^ r.length = (acc + 1) * (10 ^ r.length * 10) := by rw [Nat.mul_assoc, Nat.mul_comm 10]
    have h5 : (acc + 1) * 10 ≤ (acc + 1) * 10 * 10 ^ r.length := Nat.le_mul_of_pos_right _ hp
    have h6 : (acc * 10 + (c.toNat - 48) + 1) * 10 ^ r.length ≤ (acc + 1) * 10 * 10 ^ r.length := Nat.mul_le_mul_right _ (by omega)
    simp only [Lib.parseUint10]
    rw [if_pos hd, if_neg (by omega), if_neg (by omega), parse10 r _ h.2 (by omega)]
    rfl
theorem valA_num {l : List UInt8} (hp : plainB l = true) (hl : l.length ≤ 17) : valA l = numV l := by
  cases l with
  | nil => cases hp
  | cons c r =>
    have ha : (c :: r).all dig = true := hp
    have hd := dig_iff.1 ((Bool.and_eq_true _ _).mp (by rw [List.all_cons] at ha; exact ha)).1
    have hb : 10 ^ (c :: r).length ≤ 100000000000000000 := by
      have : 10 ^ (c :: r).length ≤ 10 ^ 17 := Nat.pow_le_pow_right (by decide) hl
      have e : 10 ^ 17 = 100000000000000000 := by decide
      omega
    have h1 := parse10 (c :: r) 0 ha (by omega)
    have h2 := numV_lt ha
    have hn43 : ¬ (c.toNat = 43 ∨ c.toNat = 45) := by omega
    have hn45 : ¬ c.toNat = 45 := by omega
    have h3 : Lib.atoiAll (c :: r) = .ok (numV (c :: r) : Int) := by
      simp only [Lib.atoiAll, if_neg hn43, Lib.parseMag, if_neg (List.cons_ne_nil c r), h1]
      rw [if_neg (by simp only [hn45, not_false_eq_true, true_and]; show ¬ 9223372036854775808 ≤ numV (c :: r); omega), if_neg (by simp [hn45]), if_neg hn45]
      rfl
    unfold valA
    rw [h3]
theorem dig_back {c : UInt8} (h : dig c = true) : UInt8.ofNat (48 + (c.toNat - 48)) = c := by
  have := dig_iff.1 h
  rw [show 48 + (c.toNat - 48) = c.toNat by omega]
  simp
theorem dec_numV : ∀ (n : Nat) (l : List UInt8), l.length = n + 1 → l.all dig = true → (l.head? = some 48 → l = [48]) → Lib.decDigits (numV l) = l
  | 0, l, hl, ha, _ => by
    match l, hl with
    | [c], _ =>
      have hd : dig c = true := by simpa using ha
      have := dig_iff.1 hd
      have e : numV [c] = c.toNat - 48 := by simp [numV, numF]
      rw [e, Lib.decDigits_one (by omega), dig_back hd]
  | n + 1, l, hl, ha, hh => by
    rcases List.eq_nil_or_concat l with rfl | ⟨l', c, rfl⟩
    · simp at hl
    · simp only [List.concat_eq_append] at hl ha hh ⊢
      rw [List.all_append, Bool.and_eq_true] at ha
      have hd : dig c = true := by simpa using ha.2
      have hdi := dig_iff.1 hd
      have hl' : l'.length = n + 1 := by simp at hl; exact hl
      have hne : l' ≠ [] := by intro e; rw [e] at hl'; simp at hl'
      have hh' : l'.head? ≠ some 48 := by
        intro e
        have h1 : (l' ++ [c]).head? = some 48 := by
          cases l' with
          | nil => exact absurd rfl hne
          | cons x t => simpa using e
        exact hne (by have := congrArg List.length (hh h1); simp at this; exact this)
      have ih := dec_numV n l' hl' ha.1 (fun e => absurd e hh')
      have hpos : 1 ≤ numV l' := by
        rcases Nat.eq_zero_or_pos (numV l') with h0 | h0
        · rw [h0, Lib.decDigits_one (by omega)] at ih
          exfalso; apply hh'; rw [← ih]; rfl
        · exact h0
      rw [numV_snoc, Lib.decDigits, dif_neg (by omega), show (numV l' * 10 + (c.toNat - 48)) / 10 = numV l' by omega, show (numV l' * 10 + (c.toNat - 48)) % 10 = c.toNat - 48 by omega, ih, dig_back hd]
theorem dec_back (u : Nat) : numV (Lib.decDigits u) = u ∧ (Lib.decDigits u).all dig = true ∧ Lib.decDigits u ≠ [] ∧ ((Lib.decDigits u).head? = some 48 → u = 0) := by
  induction u using Nat.strongRecOn with
  | ind u ih =>
    by_cases h : u < 10
    · rw [Lib.decDigits_one h]
      have e : (UInt8.ofNat (48 + u)).toNat = 48 + u := by simp; omega
      refine ⟨by simp only [numV, numF, List.foldl_cons, List.foldl_nil, e]; omega, ?_, by simp, fun hh => ?_⟩
      · rw [List.all_cons, List.all_nil, Bool.and_true]; exact dig_iff.2 (by omega)
      · have h1 : UInt8.ofNat (48 + u) = 48 := by simpa using hh
        rw [h1] at e
        have : (48 : UInt8).toNat = 48 := rfl
        omega
    · have e : (UInt8.ofNat (48 + u % 10)).toNat = 48 + u % 10 := by simp; omega
      obtain ⟨h1, h2, h3, h4⟩ := ih (u / 10) (by omega)
      rw [Lib.decDigits, dif_neg h]
      refine ⟨by rw [numV_snoc, h1, e]; omega, ?_, by simp, fun hh => ?_⟩
      · rw [List.all_append, h2, List.all_cons, List.all_nil, Bool.and_true, Bool.true_and]; exact dig_iff.2 (by omega)
      · exfalso
        cases hd : Lib.decDigits (u / 10) with
        | nil => exact h3 hd
        | cons x t =>
          rw [hd] at hh h4
          have := h4 (by simpa using hh)
          omega
theorem nDigits_le : ∀ (k u : Nat), u < 10 ^ (k + 1) → Lib.nDigits u ≤ k + 1
  | 0, u, h => by rw [Lib.nDigits_small (by simpa using h)]; omega
  | k + 1, u, h => by
    by_cases h1 : u < 10
    · rw [Lib.nDigits_small h1]; omega
    · rw [Lib.nDigits_big h1]
      have := nDigits_le k (u / 10) (by rw [Nat.pow_succ] at h; omega)
      omega
theorem okB_dec {u : Nat} (h : u ≤ 999999) : okB (Lib.decDigits u) = true := by
  obtain ⟨_, h2, h3, h4⟩ := dec_back u
  have hl : (Lib.decDigits u).length ≤ 6 := by rw [Lib.decDigits_length]; exact nDigits_le 5 u (by omega)
  unfold okB plainB
  rw [h2, decide_eq_true hl]
  have he : (Lib.decDigits u).isEmpty = false := by cases hd : Lib.decDigits u with
    | nil => exact absurd hd h3
    | cons => rfl
  rw [he]
  by_cases hh : (Lib.decDigits u).head? = some 48
  · have := h4 hh
    subst this
    rw [Lib.decDigits_one (show 0 < 10 by omega)]
    rfl
  · simp [hh]
theorem okB_plain {l : List UInt8} (h : okB l = true) : plainB l = true ∧ l.length ≤ 6 ∧ l.all dig = true ∧ l ≠ [] := by
  unfold okB at h
  simp only [Bool.and_eq_true, decide_eq_true_eq] at h
  have hp := h.1.1
  refine ⟨hp, h.1.2, ?_, ?_⟩
  · unfold plainB at hp; rw [Bool.and_eq_true] at hp; exact hp.2
  · intro e; subst e; cases hp
theorem okB_num {l : List UInt8} (h : okB l = true) : numV l ≤ 999999 ∧ Lib.decDigits (numV l) = l ∧ valA l = numV l := by
  obtain ⟨hp, hl, ha, hne⟩ := okB_plain h
  have h1 := numV_lt ha
  have h2 : 10 ^ l.length ≤ 10 ^ 6 := Nat.pow_le_pow_right (by decide) hl
  refine ⟨by omega, ?_, valA_num hp (by omega)⟩
  obtain ⟨n, hn⟩ : ∃ n, l.length = n + 1 := ⟨l.length - 1, by have := List.length_pos_iff.2 hne; omega⟩
  refine dec_numV n l hn ha (fun hh => ?_)
  unfold okB at h
  rw [hh, Bool.and_eq_true] at h
  simpa using h.2
theorem okB_inj {a b : List UInt8} (ha : okB a = true) (hb : okB b = true) (h : numV a = numV b) : a = b := by
  rw [← (okB_num ha).2.1, h, (okB_num hb).2.1]
end Go.Proofs.YtijooffpjfhidaaGreatDoor.Vp
end
section
namespace Go.Proofs.YtijooffpjfhidaaGreatDoor.Vp
open Go Go.RowKit Go.Proofs.YtijooffpjfhidaaGreatDoor.Txt Go.Proofs.YtijooffpjfhidaaGreatDoor.Seq
def dl (s : ByteArray) : List UInt8 := s.data.toList
theorem dl_mk (l : List UInt8) : dl (mk l) = l := rfl
theorem mk_dl (s : ByteArray) : mk (dl s) = s := (eq_mk s).symm
theorem dl_inj {a b : ByteArray} (h : dl a = dl b) : a = b := ext h
def cutL (c : UInt8) : List UInt8 → List UInt8 × List UInt8 × Bool
  | [] => ([], [], false)
  | x :: r => if x = c then ([], r, true) else (x :: (cutL c r).1, (cutL c r).2.1, (cutL c r).2.2)
theorem cutL_index (c : UInt8) : ∀ l : List UInt8, cutL c l = if 0 ≤ Lib.indexByte l c then (l.take (Lib.indexByte l c).toNat, l.drop ((Lib.indexByte l c).toNat + 1), true) else (l, [], false)
  | [] => rfl
  | x :: r => by
    have h := cutL_index c r
    have hge := Lib.indexByte_ge r c
    unfold cutL Lib.indexByte
    by_cases hx : x = c
    · simp [hx]
    · rw [if_neg hx, h]
      by_cases h1 : Lib.indexByte r c = -1
      · simp [hx, h1]
      · have h2 : 0 ≤ Lib.indexByte r c := by omega
        have h3 : (Lib.indexByte r c + 1).toNat = (Lib.indexByte r c).toNat + 1 := by omega
        have h4 : 0 ≤ Lib.indexByte r c + 1 := by omega
        simp [hx, h1, h2, h3, h4]
theorem cutL_len (c : UInt8) : ∀ l : List UInt8, (cutL c l).1.length ≤ l.length ∧ (cutL c l).2.1.length ≤ l.length
  | [] => ⟨Nat.le_refl _, Nat.le_refl _⟩
  | x :: r => by
    have h := cutL_len c r
    unfold cutL
    split
    · simp
    · simp; omega
theorem cutB_eq (s : ByteArray) (c : UInt8) : Cut.cutB s c = (mk (cutL c s.data.toList).1, mk (cutL c s.data.toList).2.1, (cutL c s.data.toList).2.2) := by
  have hlt := Cut.indexByte_lt s.data.toList c
  rw [len] at hlt
  rw [cutL_index]
  unfold Cut.cutB
  split
  · have e1 : s.extract 0 (Lib.indexByte s.data.toList c).toNat = mk (s.data.toList.take (Lib.indexByte s.data.toList c).toNat) := ext (by rw [extract_list]; rfl)
    have e2 : s.extract ((Lib.indexByte s.data.toList c).toNat + 1) s.size = mk (s.data.toList.drop ((Lib.indexByte s.data.toList c).toNat + 1)) := ext (by
      rw [extract_list, List.take_of_length_le (by rw [len]; omega)]; rfl)
    rw [e1, e2]
  · exact congrArg (fun t => (t, _)) (eq_mk s)
theorem cutL_back (c : UInt8) : ∀ l : List UInt8, ((cutL c l).2.2 = true → l = (cutL c l).1 ++ c :: (cutL c l).2.1) ∧ ((cutL c l).2.2 = false → (cutL c l).1 = l ∧ (cutL c l).2.1 = [])
  | [] => ⟨(fun h => by cases h), (fun _ => ⟨rfl, rfl⟩)⟩
  | y :: l => by
    have ih := cutL_back c l
    unfold cutL
    by_cases h : y = c
    · rw [if_pos h]; exact ⟨(fun _ => by simp [h]), (fun h => by cases h)⟩
    · rw [if_neg h]
      exact ⟨(fun hm => by simp only at hm ⊢; rw [List.cons_append, ← ih.1 hm]), (fun hm => by simp only at hm ⊢; rw [(ih.2 hm).1, (ih.2 hm).2]; exact ⟨rfl, rfl⟩)⟩
def cuts (c : UInt8) : List UInt8 → List (List UInt8)
  | [] => [[]]
  | x :: r => if x = c then [] :: cuts c r else (x :: (cuts c r).headD []) :: (cuts c r).tail
theorem cuts_cons (c x : UInt8) (r : List UInt8) : cuts c (x :: r) = if x = c then [] :: cuts c r else (x :: (cuts c r).headD []) :: (cuts c r).tail := rfl
theorem cutL_cons (c x : UInt8) (r : List UInt8) : cutL c (x :: r) = if x = c then ([], r, true) else (x :: (cutL c r).1, (cutL c r).2.1, (cutL c r).2.2) := rfl
def joinC (c : UInt8) : List (List UInt8) → List UInt8
  | [] => []
  | [x] => x
  | x :: y :: t => x ++ c :: joinC c (y :: t)
theorem cuts_ne (c : UInt8) (l : List UInt8) : cuts c l ≠ [] := by
  cases l with
  | nil => simp [cuts]
  | cons x r => rw [cuts_cons]; split <;> simp
theorem cuts_cut (c : UInt8) : ∀ l : List UInt8, cuts c l = (cutL c l).1 :: (if (cutL c l).2.2 = true then cuts c (cutL c l).2.1 else [])
  | [] => rfl
  | x :: r => by
    have ih := cuts_cut c r
    rw [cuts_cons, cutL_cons]
    by_cases h : x = c
    · simp [h]
    · simp only [if_neg h]
      conv => lhs; rw [ih]
      rfl
theorem cutL_lt (c : UInt8) (l : List UInt8) (h : (cutL c l).2.2 = true) : (cutL c l).1.length + (cutL c l).2.1.length + 1 = l.length := by
  have := congrArg List.length ((cutL_back c l).1 h)
  simp at this
  omega
theorem joinC_cons (c : UInt8) (x : List UInt8) {t : List (List UInt8)} (h : t ≠ []) : joinC c (x :: t) = x ++ c :: joinC c t := by
  cases t with
  | nil => exact absurd rfl h
  | cons y t => rfl
theorem joinC_head (c a : UInt8) (x : List UInt8) (t : List (List UInt8)) : joinC c ((a :: x) :: t) = a :: joinC c (x :: t) := by
  cases t <;> rfl
theorem cuts_join (c : UInt8) : ∀ l : List UInt8, joinC c (cuts c l) = l
  | [] => rfl
  | x :: r => by
    have ih := cuts_join c r
    rw [cuts_cons]
    by_cases h : x = c
    · rw [if_pos h, joinC_cons c [] (cuts_ne c r), ih, h]; rfl
    · rw [if_neg h, joinC_head]
      cases hc : cuts c r with
      | nil => exact absurd hc (cuts_ne c r)
      | cons y t => rw [hc] at ih; simp only [List.headD_cons, List.tail_cons]; rw [ih]
theorem cuts_len (c : UInt8) : ∀ l : List UInt8, (cuts c l).length ≤ l.length + 1
  | [] => by simp [cuts]
  | x :: r => by
    have ih := cuts_len c r
    rw [cuts_cons]
    split
    · simp; omega
    · simp; omega
theorem cuts_le (c : UInt8) : ∀ (l : List UInt8), ∀ x ∈ cuts c l, x.length ≤ l.length
  | [], x, hx => by simp [cuts] at hx; subst hx; simp
  | y :: r, x, hx => by
    have ih := cuts_le c r
    rw [cuts_cons] at hx
    split at hx
    · rcases List.mem_cons.1 hx with rfl | hx
      · simp
      · have := ih x hx; simp; omega
    · cases hc : cuts c r with
      | nil => exact absurd hc (cuts_ne c r)
      | cons z t =>
        rw [hc] at hx ih
        rcases List.mem_cons.1 hx with rfl | hx
        · have := ih z List.mem_cons_self; simp; omega
        · have := ih x (List.mem_cons_of_mem _ hx); simp; omega
theorem cutsF_eq (c : UInt8) : ∀ (k : Nat) (s : ByteArray), s.size < k → (cutsF c k s).map dl = cuts c (dl s)
  | 0, s, h => by omega
  | k + 1, s, h => by
    have hz := (cutB_size s c).2.2
    have hb := cutB_eq s c
    rw [cuts_cut]
    simp only [cutsF, List.map_cons]
    rw [hb] at hz ⊢
    simp only at hz ⊢
    congr 1
    change List.map dl (if (cutL c (dl s)).2.2 = true then _ else _) = _
    by_cases hm : (cutL c (dl s)).2.2 = true
    · rw [if_pos hm, if_pos hm, cutsF_eq c k _ (by have := hz hm; rw [mk_size] at this ⊢; change _ + (cutL c (dl s)).2.1.length < _ at this; change (cutL c (dl s)).2.1.length < k; omega)]
      rfl
    · rw [if_neg hm, if_neg hm]; rfl
theorem cutsL_eq (c : UInt8) (s : ByteArray) : (cutsL c s).map dl = cuts c (dl s) := cutsF_eq c _ s (by omega)
theorem cutsL_mk (c : UInt8) (s : ByteArray) : cutsL c s = (cuts c (dl s)).map mk := by
  rw [← cutsL_eq, List.map_map]
  conv => lhs; rw [← List.map_id (cutsL c s)]
  exact List.map_congr_left fun x _ => (mk_dl x).symm
end Go.Proofs.YtijooffpjfhidaaGreatDoor.Vp
end
section
namespace Go.Proofs.YtijooffpjfhidaaGreatDoor.Vp
open Go Go.RowKit Go.Proofs.YtijooffpjfhidaaGreatDoor.Txt Go.Proofs.YtijooffpjfhidaaGreatDoor.Trim Go.Proofs.YtijooffpjfhidaaGreatDoor.Num
set_option linter.unusedVariables false
structure Ord3 {α : Type} (P : α → Prop) (f : α → α → Int) : Prop where
  rng : ∀ a b, f a b = -1 ∨ f a b = 0 ∨ f a b = 1
  anti : ∀ a b, f a b = - f b a
  zero : ∀ a b, P a → P b → f a b = 0 → a = b
  trans : ∀ a b c, P a → P b → P c → f a b = -1 → f b c = -1 → f a c = -1
theorem Ord3.refl {α : Type} {P : α → Prop} {f : α → α → Int} (h : Ord3 P f) (a : α) : f a a = 0 := by have := h.anti a a; omega
theorem Ord3.weak {α : Type} {P Q : α → Prop} {f : α → α → Int} (h : Ord3 P f) (hq : ∀ a, Q a → P a) : Ord3 Q f :=
  ⟨h.rng, h.anti, fun a b ha hb => h.zero a b (hq a ha) (hq b hb), fun a b c ha hb hc => h.trans a b c (hq a ha) (hq b hb) (hq c hc)⟩
theorem Ord3.by_ {α β : Type} {P : α → Prop} {f : α → α → Int} (h : Ord3 P f) (g : β → α) (Q : β → Prop) (hq : ∀ b, Q b → P (g b)) (hg : ∀ a b, Q a → Q b → g a = g b → a = b) : Ord3 Q (fun a b => f (g a) (g b)) :=
  ⟨fun a b => h.rng _ _, fun a b => h.anti _ _, fun a b ha hb e => hg a b ha hb (h.zero _ _ (hq a ha) (hq b hb) e), fun a b c ha hb hc => h.trans _ _ _ (hq a ha) (hq b hb) (hq c hc)⟩
def cmpI (a b : Int) : Int := if a < b then -1 else if b < a then 1 else 0
theorem cmpI_ord : Ord3 (fun _ => True) cmpI where
  rng a b := by
    unfold cmpI
    by_cases h : a < b
    · simp [h]
    · by_cases h2 : b < a <;> simp [h, h2]
  anti a b := by
    unfold cmpI
    by_cases h : a < b
    · have h2 : ¬ b < a := by omega
      simp [h, h2]
    · by_cases h2 : b < a <;> simp [h, h2]
  zero a b _ _ h := by
    unfold cmpI at h
    by_cases h1 : a < b
    · rw [if_pos h1] at h; omega
    · rw [if_neg h1] at h
      by_cases h2 : b < a
      · rw [if_pos h2] at h; omega
      · omega
  trans a b c _ _ _ h1 h2 := by
    have hab : a < b := by
      unfold cmpI at h1; split at h1
      · assumption
      · split at h1 <;> omega
    have hbc : b < c := by
      unfold cmpI at h2; split at h2
      · assumption
      · split at h2 <;> omega
    unfold cmpI; rw [if_pos (by omega)]
def rowsL {α : Type} (f : α → α → Int) : List α → List α → Int
  | [], [] => 0
  | [], _ :: _ => -1
  | _ :: _, [] => 1
  | x :: a, y :: b => if f x y = 0 then rowsL f a b else f x y
section
variable {α : Type} {P : α → Prop} {f : α → α → Int}
theorem rowsL_rng (h : Ord3 P f) : ∀ a b, rowsL f a b = -1 ∨ rowsL f a b = 0 ∨ rowsL f a b = 1
  | [], [] => by simp [rowsL]
  | [], _ :: _ => by simp [rowsL]
  | _ :: _, [] => by simp [rowsL]
  | x :: a, y :: b => by
    unfold rowsL
    split
    · exact rowsL_rng h a b
    · exact h.rng x y
theorem rowsL_anti (h : Ord3 P f) : ∀ a b, rowsL f a b = - rowsL f b a
  | [], [] => by simp [rowsL]
  | [], _ :: _ => by simp [rowsL]
  | _ :: _, [] => by simp [rowsL]
  | x :: a, y :: b => by
    have h1 := h.anti x y
    have ih := rowsL_anti h a b
    unfold rowsL
    split <;> split <;> omega
theorem rowsL_zero (h : Ord3 P f) : ∀ a b, (∀ x ∈ a, P x) → (∀ x ∈ b, P x) → rowsL f a b = 0 → a = b
  | [], [], _, _, _ => rfl
  | [], _ :: _, _, _, e => by simp [rowsL] at e
  | _ :: _, [], _, _, e => by simp [rowsL] at e
  | x :: a, y :: b, ha, hb, e => by
    unfold rowsL at e
    split at e
    · rename_i h0
      rw [h.zero x y (ha x List.mem_cons_self) (hb y List.mem_cons_self) h0, rowsL_zero h a b (fun z hz => ha z (List.mem_cons_of_mem _ hz)) (fun z hz => hb z (List.mem_cons_of_mem _ hz)) e]
    · contradiction
theorem rowsL_trans (h : Ord3 P f) : ∀ a b c, (∀ x ∈ a, P x) → (∀ x ∈ b, P x) → (∀ x ∈ c, P x) → rowsL f a b = -1 → rowsL f b c = -1 → rowsL f a c = -1
  | [], [], c, _, _, _, e, _ => by simp [rowsL] at e
  | [], _ :: _, [], _, _, _, _, e => by simp [rowsL] at e
  | [], _ :: _, _ :: _, _, _, _, _, _ => by simp [rowsL]
  | _ :: _, [], c, _, _, _, e, _ => by simp [rowsL] at e
  | _ :: _, _ :: _, [], _, _, _, _, e => by simp [rowsL] at e
  | x :: a, y :: b, z :: c, ha, hb, hc, e1, e2 => by
    have px := ha x List.mem_cons_self
    have py := hb y List.mem_cons_self
    have pz := hc z List.mem_cons_self
    unfold rowsL at e1 e2 ⊢
    by_cases h1 : f x y = 0
    · rw [if_pos h1] at e1
      have hxy := h.zero x y px py h1
      rw [hxy]
      by_cases h2 : f y z = 0
      · rw [if_pos h2] at e2 ⊢
        exact rowsL_trans h a b c (fun z hz => ha z (List.mem_cons_of_mem _ hz)) (fun z hz => hb z (List.mem_cons_of_mem _ hz)) (fun z hz => hc z (List.mem_cons_of_mem _ hz)) e1 e2
      · rw [if_neg h2] at e2 ⊢; exact e2
    · rw [if_neg h1] at e1
      by_cases h2 : f y z = 0
      · have := h.zero y z py pz h2
        rw [← this, if_neg h1]; exact e1
      · rw [if_neg h2] at e2
        have := h.trans x y z px py pz e1 e2
        rw [if_neg (by omega)]; exact this
theorem rowsL_ord (h : Ord3 P f) : Ord3 (fun l : List α => ∀ x ∈ l, P x) (rowsL f) := ⟨rowsL_rng h, rowsL_anti h, rowsL_zero h, rowsL_trans h⟩
end
def cmpU (a b : UInt8) : Int := cmpI a.toNat b.toNat
theorem cmpU_ord : Ord3 (fun _ : UInt8 => True) cmpU := cmpI_ord.by_ (fun a : UInt8 => (a.toNat : Int)) _ (fun _ _ => trivial) (fun a b _ _ h => u8_eq.2 h)
def cmpB : List UInt8 → List UInt8 → Int := rowsL cmpU
theorem cmpB_ord : Ord3 (fun _ : List UInt8 => True) cmpB := (rowsL_ord cmpU_ord).weak (fun _ _ _ _ => trivial)
theorem less_cmpB : ∀ a b : List UInt8, Op.bytesLess a b = decide (cmpB a b = -1)
  | [], [] => rfl
  | [], _ :: _ => rfl
  | _ :: _, [] => rfl
  | x :: a, y :: b => by
    have ih := less_cmpB a b
    unfold cmpB at ih ⊢
    unfold rowsL
    simp only [Op.bytesLess]
    rw [ih]
    unfold cmpU cmpI
    have e1 : decide (x < y) = decide ((x.toNat : Int) < y.toNat) := by rw [decide_eq_decide, UInt8.lt_iff_toNat_lt]; omega
    by_cases h : (x.toNat : Int) < y.toNat
    · rw [e1]; simp [h]
    · by_cases h2 : (y.toNat : Int) < x.toNat
      · have : (x == y) = false := by simpa using fun e : x = y => by rw [e] at h2; omega
        rw [e1]; simp [h, h2, this]
      · have hxy : x = y := u8_eq.2 (by omega)
        rw [e1]; simp [hxy]
def partsC (a b : List UInt8) : Int :=
  if plainB a = true ∧ plainB b = true then cmpI (numV a) (numV b) else if plainB a = true then -1 else if plainB b = true then 1 else cmpB a b
def Okp (l : List UInt8) : Prop := plainB l = true → okB l = true
theorem partsC_ord : Ord3 Okp partsC where
  rng a b := by
    unfold partsC
    split
    · exact cmpI_ord.rng _ _
    · split
      · simp
      · split
        · simp
        · exact cmpB_ord.rng _ _
  anti a b := by
    unfold partsC
    have h1 := cmpI_ord.anti (numV a) (numV b)
    have h2 := cmpB_ord.anti a b
    cases plainB a <;> cases plainB b <;> simp <;> assumption
  zero a b ha hb h := by
    unfold partsC at h
    unfold Okp at ha hb
    cases hpa : plainB a <;> cases hpb : plainB b <;> rw [hpa, hpb] at h <;> simp at h
    · exact cmpB_ord.zero a b trivial trivial h
    · exact okB_inj (ha hpa) (hb hpb) (by have := cmpI_ord.zero _ _ trivial trivial h; omega)
  trans a b c _ _ _ h1 h2 := by
    unfold partsC at h1 h2 ⊢
    cases hpa : plainB a <;> cases hpb : plainB b <;> cases hpc : plainB c <;> rw [hpa, hpb] at h1 <;> rw [hpb, hpc] at h2 <;> simp at h1 h2 ⊢
    · exact cmpB_ord.trans a b c trivial trivial trivial h1 h2
    · exact cmpI_ord.trans _ _ _ trivial trivial trivial h1 h2
abbrev Ver := Int × Int × Int × ByteArray
def mayN (n : Int) : Bool := decide (0 ≤ n ∧ n ≤ 999999)
def letter (c : UInt8) : Bool := decide ((97 ≤ c.toNat ∧ c.toNat ≤ 122) ∨ (65 ≤ c.toNat ∧ c.toNat ≤ 90) ∨ (48 ≤ c.toNat ∧ c.toNat ≤ 57) ∨ c.toNat = 45)
def partB (l : List UInt8) : Bool := !l.isEmpty && decide (l.length ≤ 10) && l.all letter && (!plainB l || okB l)
def preB (l : List UInt8) : Bool := l.isEmpty || ((cuts 46 l).all partB && decide ((cuts 46 l).length ≤ 5))
def rightB (v : Ver) : Bool := mayN v.1 && mayN v.2.1 && mayN v.2.2.1 && preB (dl v.2.2.2)
def cmpP (a b : List UInt8) : Int := if a = b then 0 else if a = [] then 1 else if b = [] then -1 else rowsL partsC (cuts 46 a) (cuts 46 b)
def cmpV (a b : Ver) : Int := if cmpI a.1 b.1 = 0 then (if cmpI a.2.1 b.2.1 = 0 then (if cmpI a.2.2.1 b.2.2.1 = 0 then cmpP (dl a.2.2.2) (dl b.2.2.2) else cmpI a.2.2.1 b.2.2.1) else cmpI a.2.1 b.2.1) else cmpI a.1 b.1
theorem preB_parts {l : List UInt8} (h : preB l = true) (hne : l ≠ []) : ∀ x ∈ cuts 46 l, Okp x := by
  intro x hx
  unfold preB at h
  have : l.isEmpty = false := by cases l with
    | nil => exact absurd rfl hne
    | cons => rfl
  rw [this, Bool.false_or, Bool.and_eq_true, List.all_eq_true] at h
  have := h.1 x hx
  unfold partB at this
  intro hp
  rw [hp] at this
  simpa using (Bool.and_eq_true _ _ ▸ this).2
end Go.Proofs.YtijooffpjfhidaaGreatDoor.Vp
end
section
namespace Go.Proofs.YtijooffpjfhidaaGreatDoor.Vp
open Go Go.RowKit Go.Proofs.YtijooffpjfhidaaGreatDoor.Txt Go.Proofs.YtijooffpjfhidaaGreatDoor.Trim Go.Proofs.YtijooffpjfhidaaGreatDoor.Num
def zeroV : Ver := (0, 0, 0, mk [])
def told (v : Ver) : List UInt8 := Lib.decDigits v.1.toNat ++ 46 :: (Lib.decDigits v.2.1.toNat ++ 46 :: Lib.decDigits v.2.2.1.toNat) ++ (if dl v.2.2.2 = [] then [] else 45 :: dl v.2.2.2)
def printP (v : Ver) : List UInt8 × Bool := if rightB v = true then (told v, true) else ([], false)
def parse3 (more : Bool) (pre : List UInt8) : List (List UInt8) → Ver × Bool
  | [a, b, d] => if (okB a && okB b && okB d && !(more && pre.isEmpty) && preB pre) = true then ((numV a, numV b, numV d, mk pre), true) else (zeroV, false)
  | _ => (zeroV, false)
theorem parse3_three (more : Bool) (pre a b d : List UInt8) : parse3 more pre [a, b, d] = if (okB a && okB b && okB d && !(more && pre.isEmpty) && preB pre) = true then ((((numV a : Int), (numV b : Int), (numV d : Int), mk pre) : Ver), true) else (zeroV, false) := rfl
def parseP (s : List UInt8) : Ver × Bool := parse3 (cutL 45 s).2.2 (cutL 45 s).2.1 (cuts 46 (cutL 45 s).1)
theorem mayN_iff {n : Int} : mayN n = true ↔ 0 ≤ n ∧ n ≤ 999999 := by unfold mayN; simp
theorem right_nums {v : Ver} (h : rightB v = true) : (0 ≤ v.1 ∧ v.1 ≤ 999999) ∧ (0 ≤ v.2.1 ∧ v.2.1 ≤ 999999) ∧ (0 ≤ v.2.2.1 ∧ v.2.2.1 ≤ 999999) ∧ preB (dl v.2.2.2) = true := by
  unfold rightB at h
  simp only [Bool.and_eq_true] at h
  exact ⟨mayN_iff.1 h.1.1.1, mayN_iff.1 h.1.1.2, mayN_iff.1 h.1.2, h.2⟩
theorem parse3_cases (more : Bool) (pre : List UInt8) (l : List (List UInt8)) : (∃ a b d, l = [a, b, d]) ∨ (l.length ≠ 3 ∧ parse3 more pre l = (zeroV, false)) := by
  match l with
  | [] => exact .inr ⟨by simp, rfl⟩
  | [_] => exact .inr ⟨by simp, rfl⟩
  | [_, _] => exact .inr ⟨by simp, rfl⟩
  | [a, b, d] => exact .inl ⟨a, b, d, rfl⟩
  | _ :: _ :: _ :: _ :: _ => exact .inr ⟨by simp, rfl⟩
theorem told_parts {s : List UInt8} {a b d : List UInt8} (hc : cuts 46 (cutL 45 s).1 = [a, b, d]) (ha : okB a = true) (hb : okB b = true) (hd : okB d = true) :
    told ((numV a : Int), (numV b : Int), (numV d : Int), mk (cutL 45 s).2.1) = (cutL 45 s).1 ++ (if (cutL 45 s).2.1 = [] then [] else 45 :: (cutL 45 s).2.1) := by
  have hf := cuts_join 46 (cutL 45 s).1
  rw [hc] at hf
  unfold told
  simp only [Int.toNat_natCast, (okB_num ha).2.1, (okB_num hb).2.1, (okB_num hd).2.1, dl_mk]
  rw [← hf]
  rfl
theorem parse_right {s : List UInt8} {v : Ver} (h : parseP s = (v, true)) : rightB v = true ∧ told v = s := by
  unfold parseP at h
  rcases parse3_cases (cutL 45 s).2.2 (cutL 45 s).2.1 (cuts 46 (cutL 45 s).1) with ⟨a, b, d, hc⟩ | ⟨_, hn⟩
  · have ht := @told_parts s a b d hc
    rw [hc, parse3_three] at h
    split at h
    · rename_i hb
      simp only [Bool.and_eq_true] at hb
      obtain ⟨⟨⟨⟨ha, hb⟩, hd⟩, hm⟩, hp⟩ := hb
      obtain rfl := (Prod.mk.inj h).1
      have na := okB_num ha
      have nb := okB_num hb
      have nd := okB_num hd
      refine ⟨?_, ?_⟩
      · unfold rightB
        simp only [dl_mk, hp, Bool.and_true, Bool.and_eq_true, mayN_iff]
        omega
      · rw [ht ha hb hd]
        have hk := cutL_back 45 s
        cases hmm : (cutL 45 s).2.2 with
        | true =>
          rw [hmm] at hm
          have hne : (cutL 45 s).2.1 ≠ [] := by
            intro e
            rw [e] at hm
            cases hm
          rw [if_neg hne]
          exact (hk.1 hmm).symm
        | false =>
          have := hk.2 hmm
          rw [this.2, if_pos rfl, List.append_nil]
          exact this.1
    · cases (Prod.mk.inj h).2
  · rw [hn] at h
    cases (Prod.mk.inj h).2
theorem parse_none {s : List UInt8} {v : Ver} (h : parseP s = (v, false)) : v = zeroV := by
  unfold parseP at h
  rcases parse3_cases (cutL 45 s).2.2 (cutL 45 s).2.1 (cuts 46 (cutL 45 s).1) with ⟨a, b, d, hc⟩ | ⟨_, hn⟩
  · rw [hc, parse3_three] at h
    split at h
    · cases (Prod.mk.inj h).2
    · exact (Prod.mk.inj h).1.symm
  · rw [hn] at h
    exact (Prod.mk.inj h).1.symm
theorem told_len {v : Ver} (h : rightB v = true) : (told v).length ≤ 21 + v.2.2.2.size := by
  obtain ⟨h1, h2, h3, _⟩ := right_nums h
  have l1 := (okB_plain (okB_dec (u := v.1.toNat) (by omega))).2.1
  have l2 := (okB_plain (okB_dec (u := v.2.1.toNat) (by omega))).2.1
  have l3 := (okB_plain (okB_dec (u := v.2.2.1.toNat) (by omega))).2.1
  have hs : (dl v.2.2.2).length = v.2.2.2.size := len _
  unfold told
  by_cases he : dl v.2.2.2 = []
  · rw [if_pos he]; simp; omega
  · rw [if_neg he]; simp; omega
end Go.Proofs.YtijooffpjfhidaaGreatDoor.Vp
end
section
namespace Go.Proofs.YtijooffpjfhidaaGreatDoor.Vp
open Go Go.RowKit Go.Proofs.YtijooffpjfhidaaGreatDoor.Txt Go.Proofs.YtijooffpjfhidaaGreatDoor.Trim Go.Proofs.YtijooffpjfhidaaGreatDoor.Num Go.Proofs.YtijooffpjfhidaaGreatDoor.Seq
def cut2 : List UInt8 → List UInt8 × List UInt8 × Bool
  | [] => ([], [], false)
  | [x] => ([x], [], false)
  | x :: y :: r => if x = 124 ∧ y = 124 then ([], r, true) else (x :: (cut2 (y :: r)).1, (cut2 (y :: r)).2.1, (cut2 (y :: r)).2.2)
def cuts2 : List UInt8 → List (List UInt8)
  | [] => [[]]
  | [x] => [[x]]
  | x :: y :: r => if x = 124 ∧ y = 124 then [] :: cuts2 r else (x :: (cuts2 (y :: r)).headD []) :: (cuts2 (y :: r)).tail
theorem cut2_cons (x y : UInt8) (r : List UInt8) : cut2 (x :: y :: r) = if x = 124 ∧ y = 124 then ([], r, true) else (x :: (cut2 (y :: r)).1, (cut2 (y :: r)).2.1, (cut2 (y :: r)).2.2) := by rw [cut2]
theorem cuts2_cons (x y : UInt8) (r : List UInt8) : cuts2 (x :: y :: r) = if x = 124 ∧ y = 124 then [] :: cuts2 r else (x :: (cuts2 (y :: r)).headD []) :: (cuts2 (y :: r)).tail := by rw [cuts2]
theorem cuts2_ne (l : List UInt8) : cuts2 l ≠ [] := by
  match l with
  | [] => simp [cuts2]
  | [x] => simp [cuts2]
  | x :: y :: r => rw [cuts2_cons]; split <;> simp
theorem cuts2_cut : ∀ l : List UInt8, cuts2 l = (cut2 l).1 :: (if (cut2 l).2.2 = true then cuts2 (cut2 l).2.1 else [])
  | [] => by simp [cut2, cuts2]
  | [x] => by simp [cut2, cuts2]
  | x :: y :: r => by
    have ih := cuts2_cut (y :: r)
    rw [cuts2_cons, cut2_cons]
    by_cases h : x = 124 ∧ y = 124
    · simp only [if_pos h]; simp
    · simp only [if_neg h]
      conv => lhs; rw [ih]
      rfl
theorem pre2 (x y : UInt8) (r : List UInt8) : ([124, 124] : List UInt8).isPrefixOf (x :: y :: r) = decide (x = 124 ∧ y = 124) := by
  simp only [List.isPrefixOf, Bool.and_true]
  by_cases h1 : x = 124
  · subst h1
    by_cases h2 : y = 124
    · subst h2; rfl
    · have : ((124 : UInt8) == y) = false := beq_eq_false_iff_ne.2 (fun e => h2 e.symm)
      rw [this, decide_eq_false (fun e => h2 e.2)]; rfl
  · have : ((124 : UInt8) == x) = false := beq_eq_false_iff_ne.2 (fun e => h1 e.symm)
    rw [this, decide_eq_false (fun e => h1 e.1)]; rfl
theorem cut2_index : ∀ l : List UInt8, cut2 l = if 0 ≤ Lib.index l [124, 124] then (l.take (Lib.index l [124, 124]).toNat, l.drop ((Lib.index l [124, 124]).toNat + 2), true) else (l, [], false)
  | [] => by simp [cut2, Lib.index]
  | [x] => by
    have : Lib.index [x] [124, 124] = -1 := by simp [Lib.index, List.isPrefixOf]
    rw [this]; simp [cut2]
  | x :: y :: r => by
    have ih := cut2_index (y :: r)
    have hg := Lib.index_ge (y :: r) [124, 124]
    have hi : Lib.index (x :: y :: r) [124, 124] = if x = 124 ∧ y = 124 then 0 else if Lib.index (y :: r) [124, 124] == -1 then -1 else Lib.index (y :: r) [124, 124] + 1 := by
      conv => lhs; unfold Lib.index
      rw [pre2]
      by_cases h : x = 124 ∧ y = 124 <;> simp [h]
    rw [cut2_cons, hi]
    by_cases h : x = 124 ∧ y = 124
    · simp [h]
    · simp only [if_neg h]
      generalize Lib.index (y :: r) [124, 124] = q at *
      rw [ih]
      by_cases hq : 0 ≤ q
      · obtain ⟨n, rfl⟩ := Int.eq_ofNat_of_zero_le hq
        have h1 : ((n : Int) == -1) = false := by rw [beq_eq_false_iff_ne]; omega
        have e1 : ((n : Int) + 1).toNat = n + 1 := by omega
        rw [h1]
        simp only [Bool.false_eq_true, if_false]
        rw [if_pos hq, if_pos (by omega), e1, Int.toNat_natCast]
        simp
      · have : q = -1 := by omega
        subst this
        simp
theorem cutD_eq (s : ByteArray) : cutD s = (mk (cut2 (dl s)).1, mk (cut2 (dl s)).2.1, (cut2 (dl s)).2.2) := by
  have h := cut2_index (dl s)
  unfold cutD
  unfold dl at h ⊢
  rw [h]
  split
  · refine Prod.ext ?_ (Prod.ext ?_ rfl)
    · refine ext ?_; rw [extract_list, List.drop_zero]; rfl
    · refine ext ?_
      rw [extract_list]
      show List.drop _ (List.take s.data.size s.data.toList) = _
      rw [List.take_of_length_le (by simp)]; rfl
  · exact Prod.ext (eq_mk s) rfl
theorem cut2_lt (l : List UInt8) : (cut2 l).2.2 = true → (cut2 l).1.length + (cut2 l).2.1.length + 2 = l.length := by
  match l with
  | [] => intro h; simp [cut2] at h
  | [x] => intro h; simp [cut2] at h
  | x :: y :: r =>
    intro h
    have ih := cut2_lt (y :: r)
    rw [cut2_cons] at h ⊢
    by_cases hx : x = 124 ∧ y = 124
    · simp [hx]
    · simp only [if_neg hx] at h ⊢
      have := ih h
      simp at this ⊢; omega
theorem cutsDF_eq : ∀ (k : Nat) (s : ByteArray), s.size < k → (cutsDF k s) = (cuts2 (dl s)).map mk
  | 0, s, h => by omega
  | k + 1, s, h => by
    rw [cutsDF, cuts2_cut, cutD_eq]
    simp only [List.map_cons]
    by_cases hc : (cut2 (dl s)).2.2 = true
    · have hl := cut2_lt _ hc
      have : (dl s).length = s.size := len s
      rw [if_pos hc, if_pos hc, cutsDF_eq k _ (by rw [mk_size]; omega)]; rfl
    · rw [if_neg hc, if_neg hc]; rfl
theorem cutsD_eq (s : ByteArray) : cutsD s = (cuts2 (dl s)).map mk := cutsDF_eq _ s (by omega)
theorem cuts2_len : ∀ l : List UInt8, (cuts2 l).length ≤ l.length + 1
  | [] => by simp [cuts2]
  | [x] => by simp [cuts2]
  | x :: y :: r => by
    have ih1 := cuts2_len (y :: r)
    have ih2 := cuts2_len r
    rw [cuts2_cons]
    split <;> simp at * <;> omega
theorem cuts2_le : ∀ (l : List UInt8), ∀ x ∈ cuts2 l, x.length ≤ l.length
  | [], x, hx => by simp [cuts2] at hx; subst hx; simp
  | [y], x, hx => by simp [cuts2] at hx; subst hx; simp
  | y :: z :: r, x, hx => by
    have ih1 := cuts2_le (z :: r)
    have ih2 := cuts2_le r
    rw [cuts2_cons] at hx
    split at hx
    · rcases List.mem_cons.1 hx with rfl | hx
      · simp
      · have := ih2 x hx; simp; omega
    · cases hc : cuts2 (z :: r) with
      | nil => exact absurd hc (cuts2_ne _)
      | cons u t =>
        rw [hc] at hx ih1
        rcases List.mem_cons.1 hx with rfl | hx
        · have := ih1 u List.mem_cons_self; simp at this ⊢; omega
        · have := ih1 x (List.mem_cons_of_mem _ hx); simp at this ⊢; omega
def words (l : List UInt8) : List (List UInt8) := (cuts 32 l).filter fun w => !w.isEmpty
abbrev Bd := Int × Ver
abbrev Ran := List (List Bd)
def rightA (l : List Bd) : Bool := decide (l.length ≤ 8) && l.all fun b => decide (1 ≤ b.1 ∧ b.1 ≤ 5) && rightB b.2
def rightR (r : Ran) : Bool := decide (1 ≤ r.length ∧ r.length ≤ 8) && r.all rightA
def sgn (o : Int) : List UInt8 := if o = 1 then [61] else if o = 2 then [60] else if o = 3 then [60, 61] else if o = 4 then [62] else [62, 61]
def wordB (b : Bd) : List UInt8 := sgn b.1 ++ told b.2
def wordA (l : List Bd) : List UInt8 := if l = [] then [42] else joinC 32 (l.map wordB)
def joinD : List (List UInt8) → List UInt8
  | [] => []
  | [x] => x
  | x :: y :: t => x ++ 32 :: 124 :: 124 :: 32 :: joinD (y :: t)
def wordR (r : Ran) : List UInt8 := joinD (r.map wordA)
def printR (r : Ran) : List UInt8 × Bool := if rightR r = true then (wordR r, true) else ([], false)
def nextV (v : Ver) (tilde : Bool) : Ver :=
  if tilde = true then (v.1, v.2.1 + 1, 0, mk []) else if v.1 > 0 then (v.1 + 1, 0, 0, mk []) else if v.2.1 > 0 then (v.1, v.2.1 + 1, 0, mk []) else (v.1, v.2.1, v.2.2.1 + 1, mk [])
def opW : List UInt8 → Int × List UInt8
  | [] => (1, [])
  | c :: r => if c = 60 then (if r.head? = some 61 then (3, r.tail) else (2, r)) else if c = 62 then (if r.head? = some 61 then (5, r.tail) else (4, r)) else if c = 61 then (1, r) else (1, c :: r)
def wordP : List UInt8 → Option (List Bd)
  | [] => some []
  | c :: r => if c = 42 ∧ r = [] then some []
    else if c = 94 ∨ c = 126 then (if (parseP r).2 = true then some [(5, (parseP r).1), (2, nextV (parseP r).1 (decide (c = 126)))] else none)
    else if (parseP (opW (c :: r)).2).2 = true then some [((opW (c :: r)).1, (parseP (opW (c :: r)).2).1)] else none
def altP : List (List UInt8) → Option (List Bd)
  | [] => some []
  | w :: ws => (wordP w).bind fun a => (altP ws).bind fun b => some (a ++ b)
def altsP : List (List UInt8) → Option Ran
  | [] => some []
  | l :: ls => (altP (words l)).bind fun a => (altsP ls).bind fun r => some (a :: r)
def finR : Option Ran → Ran × Bool
  | some r => if rightR r = true then (r, true) else ([], false)
  | none => ([], false)
def parseR (s : List UInt8) : Ran × Bool := finR (altsP (cuts2 s))
theorem rightA_mem {l : List Bd} (h : rightA l = true) : l.length ≤ 8 ∧ ∀ b ∈ l, (1 ≤ b.1 ∧ b.1 ≤ 5) ∧ rightB b.2 = true := by
  unfold rightA at h
  rw [Bool.and_eq_true] at h
  refine ⟨of_decide_eq_true h.1, fun b hb => ?_⟩
  have := List.all_eq_true.1 h.2 b hb
  rw [Bool.and_eq_true] at this
  exact ⟨of_decide_eq_true this.1, this.2⟩
theorem joinD_cons (x : List UInt8) {t : List (List UInt8)} (h : t ≠ []) : joinD (x :: t) = x ++ 32 :: 124 :: 124 :: 32 :: joinD t := by
  cases t with
  | nil => exact absurd rfl h
  | cons y t => rfl
theorem rightR_mem {r : Ran} (h : rightR r = true) : (1 ≤ r.length ∧ r.length ≤ 8) ∧ ∀ l ∈ r, rightA l = true := by
  unfold rightR at h
  rw [Bool.and_eq_true] at h
  exact ⟨of_decide_eq_true h.1, List.all_eq_true.1 h.2⟩
theorem parseR_right {s : List UInt8} {r : Ran} (h : parseR s = (r, true)) : rightR r = true := by
  unfold parseR at h
  cases hc : altsP (cuts2 s) with
  | none => rw [hc] at h; simp [finR] at h
  | some q =>
    rw [hc] at h
    simp only [finR] at h
    split at h
    · rename_i hq
      obtain rfl := (Prod.mk.inj h).1
      exact hq
    · simp at h
theorem parseR_none {s : List UInt8} {r : Ran} (h : parseR s = (r, false)) : r = [] := by
  unfold parseR at h
  cases hc : altsP (cuts2 s) with
  | none => rw [hc] at h; simp [finR] at h; exact h
  | some q =>
    rw [hc] at h
    simp only [finR] at h
    split at h
    · simp at h
    · exact (Prod.mk.inj h).1.symm
end Go.Proofs.YtijooffpjfhidaaGreatDoor.Vp
end
section
namespace Go.Proofs.YtijooffpjfhidaaGreatDoor.Txt
open Go Go.RowKit Go.Proofs.YtijooffpjfhidaaGreatDoorW.PrintWords
structure Lt {α : Type} (l : List α) (i : Int) (r : List α) : Prop where
  ge : 0 ≤ i
  le : i ≤ l.length
  eq : l.drop i.toNat = r
section
variable {α : Type} {l r : List α} {i : Int} {x : α}
theorem Lt.zero (l : List α) : Lt l 0 l := ⟨by omega, by omega, rfl⟩
theorem Lt.length (h : Lt l i r) : (r.length : Int) = l.length - i := by
  have h1 := h.ge
  have h2 := h.le
  rw [← h.eq, List.length_drop]
  omega
theorem Lt.not_lt (h : Lt l i []) : ¬ i < l.length := by have := h.length; simp at this; omega
theorem Lt.lt (h : Lt l i (x :: r)) : i < l.length := by have := h.length; simp at this; omega
theorem Lt.get (h : Lt l i (x :: r)) : l[i.toNat]? = some x := by
  have := congrArg (·[0]?) h.eq
  simpa using this
theorem Lt.rd (h : Lt l i (x :: r)) (d : α) : rdOf d l i = x := by
  unfold rdOf
  rw [List.getD_eq_getElem?_getD, h.get]; rfl
theorem Lt.next (h : Lt l i (x :: r)) : Lt l (i + 1) r := by
  have h1 := h.lt
  have h0 := h.ge
  refine ⟨by omega, by omega, ?_⟩
  rw [show (i + 1).toNat = i.toNat + 1 by omega, ← List.drop_drop, h.eq]
  rfl
theorem Lt.wrap (h : Lt l i (x :: r)) (hs : l.length ≤ 4611686018427387904) : wrap64 (i + 1) = i + 1 := by
  have h1 := h.lt
  have h0 := h.ge
  unfold wrap64
  omega
end
theorem wrapS {x : Int} (h0 : 0 ≤ x) (h1 : x ≤ 4294967296) : wrap64 x = x := by unfold wrap64; omega
theorem pred {k n : Nat} (h : n < k) : ∃ m, k = m + 1 ∧ n ≤ m := ⟨k - 1, by omega, by omega⟩
end Go.Proofs.YtijooffpjfhidaaGreatDoor.Txt
end
section
namespace Go.Proofs.YtijooffpjfhidaaGreatDoor.Vp
open Go Go.RowKit Go.Proofs.YtijooffpjfhidaaGreatDoorW.PrintWords Go.Proofs.YtijooffpjfhidaaGreatDoor.Txt Go.Proofs.YtijooffpjfhidaaGreatDoor.Trim Go.Proofs.YtijooffpjfhidaaGreatDoor.Num Go.Proofs.YtijooffpjfhidaaGreatDoor.Seq Go.Proofs.YtijooffpjfhidaaGreatDoor.G
theorem dl_len (s : ByteArray) : (dl s).length = s.size := len s
theorem ne_nil (l : List UInt8) : (l != []) = !l.isEmpty := by cases l <;> rfl
theorem At0 (s : ByteArray) : At s 0 (dl s) := At.zero s
theorem rdigits_loop : ∀ (r : List UInt8) (k : Nat) (s : ByteArray) (i : Int), At s i r → s.size ≤ 4611686018427387904 → r.length < k →
    hoggetref04_digits.l0 k s i = some (r.all dig && !(dl s).isEmpty)
  | [], k, s, i, h, hs, hk => by
    obtain ⟨k, rfl, _⟩ := pred hk
    simp only [hoggetref04_digits.l0]
    rw [if_neg h.not_lt, toList_eq, ne_nil]; rfl
  | c :: r, k, s, i, h, hs, hk => by
    obtain ⟨k, rfl, hk'⟩ := pred hk
    simp only [hoggetref04_digits.l0]
    rw [if_pos h.lt, if_pos h.ge, h.byte, h.wrap hs, rdigits_loop r k s (i + 1) h.next hs (by simp at hk'; omega), List.all_cons]
    unfold dig
    by_cases a : (c.toNat : Int) < 48
    · rw [if_pos a]
      have : ¬ (48 ≤ c.toNat ∧ c.toNat ≤ 57) := by omega
      simp [this]
    · rw [if_neg a]
      by_cases b : (c.toNat : Int) > 57
      · rw [if_pos b]
        have : ¬ (48 ≤ c.toNat ∧ c.toNat ≤ 57) := by omega
        simp [this]
      · rw [if_neg b]
        have : 48 ≤ c.toNat ∧ c.toNat ≤ 57 := by omega
        simp [this]
theorem rdigits_eq (k : Nat) (s : ByteArray) (hs : s.size ≤ 4611686018427387904) (hk : s.size < k) : hoggetref04_digits.f k s = some (plainB (dl s)) := by
  unfold hoggetref04_digits.f
  rw [rdigits_loop (dl s) k s 0 (At0 s) hs (by rw [dl_len]; exact hk)]
  unfold plainB
  rw [Bool.and_comm]
theorem rnum_loop : ∀ (r : List UInt8) (k : Nat) (s : ByteArray) (x : Nat) (i : Int), At s i r → s.size ≤ 4611686018427387904 → r.all dig = true → (x + 1) * 10 ^ r.length ≤ 1000000 → r.length < k →
    hoggetref04_Number.l0 k s x i = some ((r.foldl numF x : Nat) : Int)
  | [], k, s, x, i, h, hs, ha, hx, hk => by
    obtain ⟨k, rfl, _⟩ := pred hk
    simp only [hoggetref04_Number.l0]
    rw [if_neg h.not_lt]; rfl
  | c :: r, k, s, x, i, h, hs, ha, hx, hk => by
    obtain ⟨k, rfl, hk'⟩ := pred hk
    rw [List.all_cons, Bool.and_eq_true] at ha
    have hd := dig_iff.1 ha.1
    have hp : 1 ≤ 10 ^ r.length := Nat.one_le_pow _ _ (by decide)
    rw [List.length_cons, Nat.pow_succ] at hx
    have h4 : (x + 1) * 10 * 10 ^ r.length = (x + 1) * (10 ^ r.length * 10) := by rw [Nat.mul_assoc, Nat.mul_comm 10]
    have h5 : (x + 1) * 10 ≤ (x + 1) * 10 * 10 ^ r.length := Nat.le_mul_of_pos_right _ hp
    have h6 : (x * 10 + (c.toNat - 48) + 1) * 10 ^ r.length ≤ (x + 1) * 10 * 10 ^ r.length := Nat.mul_le_mul_right _ (by omega)
    simp only [hoggetref04_Number.l0]
    rw [if_pos h.lt, if_pos h.ge, h.byte, h.wrap hs]
    have e : wrap64 (wrap64 (10 * (x : Int)) + ((c.toNat : Int) - 48) % 256) = ((numF x c : Nat) : Int) := by
      unfold numF
      rw [wrapS (x := 10 * (x : Int)) (by omega) (by omega), wrapS (by omega) (by omega)]
      omega
    rw [e, rnum_loop r k s (numF x c) (i + 1) h.next hs ha.2 (by unfold numF; omega) (by simp at hk'; omega)]
    rfl
theorem rNumber_eq (k : Nat) (s : ByteArray) (hs : s.size ≤ 4611686018427387904) (hk : s.size + 20 < k) : hoggetref04_Number.f k s = some (if okB (dl s) = true then (numV (dl s) : Int) else -1) := by
  unfold hoggetref04_Number.f
  rw [rdigits_eq k s hs (by omega)]
  simp only [Option.bind_some]
  obtain ⟨k, rfl, hk'⟩ := pred hk
  simp only [hoggetref04_Number.j0, if_true]
  have hno : okB (dl s) = false → (if okB (dl s) = true then (numV (dl s) : Int) else -1) = -1 := fun h => by rw [h]; rfl
  by_cases hp : plainB (dl s) = true
  · rw [if_pos hp]
    by_cases hl : (s.size : Int) > 6
    · rw [if_pos hl, hno]
      unfold okB
      have : ¬ (dl s).length ≤ 6 := by rw [dl_len]; omega
      simp [this]
    · rw [if_neg hl]
      cases hd : dl s with
      | nil => rw [hd] at hp; cases hp
      | cons c r =>
        have h0 := At0 s
        rw [hd] at h0 hp
        have hlen := dl_len s
        rw [hd] at hlen
        have ha : (c :: r).all dig = true := hp
        rw [if_pos h0.lt, h0.byte]
        have hok : okB (c :: r) = ((c.toNat : Int) != 48 || (c == 48 && r.isEmpty)) := by
          rw [okB_cons hp, decide_eq_true (by simp at hlen; omega), Bool.true_and]
        have hnum : hoggetref04_Number.l0 k s 0 0 = some ((numV (c :: r) : Nat) : Int) := by
          have h6 : 10 ^ (c :: r).length ≤ 10 ^ 6 := Nat.pow_le_pow_right (by decide) (by omega)
          exact rnum_loop (c :: r) k s 0 0 h0 hs ha (by omega) (by omega)
        by_cases hc : (c.toNat : Int) = 48
        · rw [if_pos hc]
          have hc' : c = 48 := u8_eq.2 hc
          cases hr : r with
          | nil =>
            rw [hr] at hlen hok hnum
            rw [decide_eq_false (by simp at hlen; omega), if_neg (by decide), hnum, if_pos]
            rw [hok, hc']; rfl
          | cons y t =>
            rw [hr] at hlen hok
            rw [decide_eq_true (by simp at hlen; omega), if_pos rfl, if_neg]
            rw [hok, hc']; simp
        · rw [if_neg hc, if_neg (by decide), hnum, if_pos]
          rw [hok]
          simp [hc]
  · rw [if_neg hp, hno]
    unfold okB
    rw [Bool.not_eq_true] at hp
    rw [hp]; rfl
theorem rpart_step (k : Nat) {s : ByteArray} {i : Int} {c : UInt8} {r : List UInt8} (h : At s i (c :: r)) (hs : s.size ≤ 4611686018427387904) :
    hoggetref04_part.l0 (k + 1) s i = if letter c = true then hoggetref04_part.l0 k s (i + 1) else some false := by
  simp only [hoggetref04_part.l0]
  rw [if_pos h.lt, if_pos h.ge, h.byte, h.wrap hs]
  generalize hoggetref04_part.l0 k s (i + 1) = X
  have hl : letter c = decide ((97 ≤ (c.toNat : Int) ∧ (c.toNat : Int) ≤ 122) ∨ (65 ≤ (c.toNat : Int) ∧ (c.toNat : Int) ≤ 90) ∨ (48 ≤ (c.toNat : Int) ∧ (c.toNat : Int) ≤ 57) ∨ (c.toNat : Int) = 45) := by
    unfold letter; rw [decide_eq_decide]; omega
  rw [hl]
  clear hl h
  generalize (c.toNat : Int) = d
  by_cases hL : (97 ≤ d ∧ d ≤ 122) ∨ (65 ≤ d ∧ d ≤ 90) ∨ (48 ≤ d ∧ d ≤ 57) ∨ d = 45
  · simp only [decide_eq_true hL, if_true]
    repeat' split
    all_goals first | rfl | (exfalso; omega)
  · simp only [decide_eq_false hL, Bool.false_eq_true, if_false]
    repeat' split
    all_goals first | rfl | (exfalso; omega)
theorem rpart_loop : ∀ (r : List UInt8) (k : Nat) (s : ByteArray) (i : Int), At s i r → s.size ≤ 4611686018427387904 → r.length + s.size + 50 < k →
    hoggetref04_part.l0 k s i = some (r.all letter && (!plainB (dl s) || okB (dl s)))
  | [], k, s, i, h, hs, hk => by
    obtain ⟨k, rfl, hk'⟩ := pred hk
    simp only [hoggetref04_part.l0]
    rw [if_neg h.not_lt, rdigits_eq k s hs (by simp at hk'; omega)]
    simp only [Option.bind_some]
    cases hp : plainB (dl s)
    · simp
    · rw [if_pos rfl, rNumber_eq k s hs (by simp at hk'; omega)]
      cases hok : okB (dl s)
      · simp
      · simp
  | c :: r, k, s, i, h, hs, hk => by
    obtain ⟨k, rfl, hk'⟩ := pred hk
    rw [rpart_step k h hs, List.all_cons]
    cases letter c
    · simp
    · rw [if_pos rfl, rpart_loop r k s (i + 1) h.next hs (by simp at hk'; omega)]; rfl
theorem rpart_eq (k : Nat) (s : ByteArray) (hs : s.size ≤ 4611686018427387904) (hk : 2 * s.size + 60 < k) : hoggetref04_part.f k s = some (partB (dl s)) := by
  unfold hoggetref04_part.f
  obtain ⟨k, rfl, hk'⟩ := pred hk
  simp only [hoggetref04_part.j0, if_true]
  have h0 := At0 s
  have hlen := dl_len s
  by_cases h1 : (s.size : Int) < 1
  · rw [if_pos h1]
    have : dl s = [] := List.length_eq_zero_iff.1 (by omega)
    rw [this]; rfl
  · rw [if_neg h1]
    have he : (dl s).isEmpty = false := by
      cases hd : dl s with
      | nil => rw [hd] at hlen; simp at hlen; omega
      | cons => rfl
    by_cases h2 : (s.size : Int) > 10
    · rw [decide_eq_true h2, if_pos rfl]
      unfold partB
      have : ¬ (dl s).length ≤ 10 := by omega
      simp [this]
    · rw [decide_eq_false h2, if_neg (by decide), rpart_loop (dl s) k s 0 h0 hs (by omega)]
      unfold partB
      have : (dl s).length ≤ 10 := by omega
      rw [he, decide_eq_true this]; rfl
theorem extract_more {s : ByteArray} {p : List UInt8} {from_ i : Int} {a : UInt8} {r : List UInt8} (h : At s i (a :: r)) (_ : 0 ≤ from_) (h1 : from_ ≤ i) (hp : s.extract from_.toNat i.toNat = mk p) : s.extract from_.toNat (i + 1).toNat = mk (p ++ [a]) := by
  have hl : dl (s.extract from_.toNat i.toNat) = p := by rw [hp]; rfl
  unfold dl at hl
  rw [extract_list] at hl
  apply ext
  rw [extract_list, mk_list, ← hl]
  have hg := h.ge
  have hlt := h.lt
  have hi : (i + 1).toNat = i.toNat + 1 := by omega
  have hget : (s.data.toList)[i.toNat]? = some a := by
    have := congrArg (·[0]?) h.eq
    simpa using this
  have hil : i.toNat < s.data.toList.length := by rw [len]; omega
  rw [hi, List.take_add_one, hget, List.drop_append_of_le_length (by rw [List.length_take]; omega)]
  rfl
theorem extract_none (s : ByteArray) (i : Nat) : s.extract i i = mk [] := by
  apply ext
  rw [extract_list]
  simp
theorem rcut_loop (b : UInt8) : ∀ (r : List UInt8) (k : Nat) (s : ByteArray) (out : List ByteArray) (from_ i : Int) (p : List UInt8), At s i r → s.size ≤ 2147483647 → 0 ≤ from_ → from_ ≤ i → s.extract from_.toNat i.toNat = mk p →
    out.length + r.length + 1 < 8796093022208 → r.length + 1 < k →
    hoggetref04_Cut.l0 k s b.toNat out from_ i = some (out ++ ((p ++ (cuts b r).headD []) :: (cuts b r).tail).map mk)
  | [], k, s, out, from_, i, p, h, hs, h0, h1, hp, ho, hk => by
    obtain ⟨k, rfl, hk'⟩ := pred hk
    obtain ⟨k, rfl, _⟩ := pred (show 0 < k by simp at hk'; omega)
    have hn := h.nil
    have hw : wrap64 (i + 1) = i + 1 := wrapS (by omega) (by omega)
    simp only [hoggetref04_Cut.l0]
    rw [if_pos (by omega), if_pos hn, if_pos h0, if_pos h1, if_pos (by simp at ho; omega), hw, if_neg (by omega), hp]
    simp [cuts]
  | a :: r, k, s, out, from_, i, p, h, hs, h0, h1, hp, ho, hk => by
    obtain ⟨k, rfl, hk'⟩ := pred hk
    have hlt := h.lt
    have hg := h.ge
    have hw := h.wrap (by omega)
    rw [List.length_cons] at ho hk'
    simp only [hoggetref04_Cut.l0]
    rw [if_pos (by omega), if_neg (by omega), if_pos hg, if_pos hlt, h.byte, hw]
    by_cases hc : (a.toNat : Int) = b.toNat
    · have hab : a = b := u8_eq.2 hc
      rw [if_pos hc, if_pos h0, if_pos h1, if_pos (by omega), hp,
        rcut_loop b r k s (out ++ [mk p]) (i + 1) (i + 1) [] h.next hs (by omega) (by omega) (extract_none _ _) (by simp; omega) (by omega)]
      rw [cuts_cons, if_pos hab]
      cases hcr : cuts b r with
      | nil => exact absurd hcr (cuts_ne b r)
      | cons y t => simp
    · have hab : ¬ a = b := fun e => hc (by rw [e])
      rw [if_neg hc, rcut_loop b r k s out from_ (i + 1) (p ++ [a]) h.next hs h0 (by omega) (extract_more h h0 h1 hp) (by omega) (by omega)]
      rw [cuts_cons, if_neg hab]
      simp
theorem rCut_eq (b : UInt8) (k : Nat) (s : ByteArray) (hs : s.size ≤ 2147483647) (hk : s.size + 1 < k) : hoggetref04_Cut.f k s b.toNat = some ((cuts b (dl s)).map mk) := by
  unfold hoggetref04_Cut.f
  have hl := dl_len s
  rw [rcut_loop b (dl s) k s [] 0 0 [] (At0 s) hs (by omega) (by omega) (extract_none s 0) (by simp; omega) (by omega)]
  cases hc : cuts b (dl s) with
  | nil => exact absurd hc (cuts_ne b _)
  | cons y t => simp
theorem rmay_eq (n : Int) : hoggetref04_may.f n = some (mayN n) := by
  unfold hoggetref04_may.f mayN
  by_cases h : n ≥ 0
  · rw [if_pos h]; congr 1; rw [decide_eq_decide]; omega
  · rw [if_neg h]; congr 1; exact (decide_eq_false (by omega)).symm
theorem rright_loop (N : Nat) (hN : N ≤ 2147483647) : ∀ (r : List ByteArray) (k : Nat) (l : List ByteArray) (i : Int), Lt l i r → l.length ≤ 2147483648 → (∀ x ∈ r, x.size ≤ N) → r.length + 2 * N + 60 < k →
    hoggetref04_Right.l0 k l i = some ((r.all fun x => partB (dl x)) && decide (l.length ≤ 5))
  | [], k, l, i, h, hl, hx, hk => by
    obtain ⟨k, rfl, _⟩ := pred hk
    simp only [hoggetref04_Right.l0]
    rw [if_neg h.not_lt, List.all_nil, Bool.true_and]
    congr 1
    rw [decide_eq_decide]; omega
  | x :: r, k, l, i, h, hl, hx, hk => by
    obtain ⟨k, rfl, hk'⟩ := pred hk
    rw [List.length_cons] at hk'
    have hxs := hx x List.mem_cons_self
    simp only [hoggetref04_Right.l0]
    rw [if_pos h.lt, if_pos h.ge, h.rd, rpart_eq k x (by omega) (by omega), h.wrap (by omega)]
    simp only [Option.bind_some, List.all_cons]
    cases partB (dl x)
    · simp
    · rw [if_pos rfl, rright_loop N hN r k l (i + 1) h.next hl (fun y hy => hx y (List.mem_cons_of_mem _ hy)) (by omega)]; rfl
theorem rRight_eq (k : Nat) (a b c : Int) (p : ByteArray) (hs : p.size ≤ 2147483647) (hk : 4 * p.size + 80 < k) : hoggetref04_Right.f k a b c p = some (rightB (a, b, c, p)) := by
  unfold hoggetref04_Right.f
  rw [rmay_eq, rmay_eq, rmay_eq]
  simp only [Option.bind_some]
  obtain ⟨k, rfl, hk'⟩ := pred hk
  simp only [hoggetref04_Right.j0, if_true, toList_eq]
  unfold rightB
  simp only
  cases mayN a
  · simp
  · rw [if_pos rfl]
    cases mayN b
    · simp
    · rw [if_pos rfl]
      cases mayN c
      · simp
      · simp only [Bool.not_true, Bool.false_eq_true, if_false, Bool.and_true, Bool.true_and]
        change (if dl p = [] then some true else _) = _
        unfold preB
        by_cases he : dl p = []
        · rw [if_pos he, he]; rfl
        · rw [if_neg he]
          have hne : (dl p).isEmpty = false := by cases hd : dl p with
            | nil => exact absurd hd he
            | cons => rfl
          have hc := rCut_eq 46 k p hs (by omega)
          have e46 : (((46 : UInt8).toNat : Nat) : Int) = 46 := rfl
          rw [e46] at hc
          have hcl := cuts_len 46 (dl p)
          rw [dl_len] at hcl
          rw [hc, hne]
          simp only [Option.bind_some, Bool.false_or]
          rw [rright_loop p.size hs _ k _ 0 (Lt.zero _) (by rw [List.length_map]; omega)
            (fun x hx => by obtain ⟨y, hy, rfl⟩ := List.mem_map.1 hx; have := cuts_le 46 _ y hy; rw [dl_len] at this; rw [mk_size]; exact this) (by rw [List.length_map]; omega)]
          rw [List.all_map, List.length_map]
          rfl
end Go.Proofs.YtijooffpjfhidaaGreatDoor.Vp
end
section
namespace Go.Proofs.YtijooffpjfhidaaGreatDoor.Vp
open Go Go.RowKit Go.Proofs.YtijooffpjfhidaaGreatDoorW.PrintWords Go.Proofs.YtijooffpjfhidaaGreatDoor.Txt Go.Proofs.YtijooffpjfhidaaGreatDoor.Trim Go.Proofs.YtijooffpjfhidaaGreatDoor.Num Go.Proofs.YtijooffpjfhidaaGreatDoor.Seq Go.Proofs.YtijooffpjfhidaaGreatDoor.G
def flat5 (R : Ver × Bool) : Int × Int × Int × ByteArray × Bool := (R.1.1, R.1.2.1, R.1.2.2.1, R.1.2.2.2, R.2)
theorem e46 : (⟨#[46]⟩ : ByteArray) = mk [46] := rfl
theorem e45 : (⟨#[45]⟩ : ByteArray) = mk [45] := rfl
theorem e0 : (⟨#[]⟩ : ByteArray) = mk [] := rfl
theorem dec_len {n : Nat} (h : n ≤ 999999) : (Lib.decDigits n).length ≤ 6 := (okB_plain (okB_dec h)).2.1
theorem rorder_eq (a b : Int) : hoggetref04_order.f a b = some (cmpI a b) := by
  unfold hoggetref04_order.f cmpI
  by_cases h : a < b
  · rw [if_pos h, if_pos h]
  · rw [if_neg h, if_neg h]
    by_cases h2 : a > b
    · rw [if_pos h2, if_pos h2]
    · rw [if_neg h2, if_neg h2]
theorem cmpB_less (a b : List UInt8) : (if Op.bytesLess a b = true then some (-1) else if Op.bytesLess b a = true then some 1 else some (0 : Int)) = some (cmpB a b) := by
  rw [less_cmpB, less_cmpB, cmpB_ord.anti b a]
  rcases cmpB_ord.rng a b with h | h | h <;> rw [h] <;> rfl
theorem rparts_eq (k : Nat) (x y : ByteArray) (hx : x.size ≤ 2147483647) (hy : y.size ≤ 2147483647) (ox : Okp (dl x)) (oy : Okp (dl y)) (hk : x.size + y.size + 30 < k) : hoggetref04_parts.f k x y = some (partsC (dl x) (dl y)) := by
  unfold hoggetref04_parts.f
  rw [rdigits_eq k x (by omega) (by omega), rdigits_eq k y (by omega) (by omega)]
  simp only [Option.bind_some]
  obtain ⟨k, rfl, hk'⟩ := pred hk
  simp only [hoggetref04_parts.j0]
  rw [rdigits_eq k x (by omega) (by omega), rdigits_eq k y (by omega) (by omega), rNumber_eq k x (by omega) (by omega), rNumber_eq k y (by omega) (by omega), toList_eq, toList_eq]
  have hless := cmpB_less (dl x) (dl y)
  unfold partsC
  cases hpx : plainB (dl x) with
  | true =>
    cases hpy : plainB (dl y) with
    | true =>
      rw [ox hpx, oy hpy]
      simp [rorder_eq]
    | false => simp
  | false =>
    cases hpy : plainB (dl y) with
    | true => simp
    | false =>
      simp only [Option.bind_some, Bool.false_eq_true, if_false, false_and]
      exact hless
theorem rrows_eq (N : Nat) (hN : N ≤ 2147483647) (A B : List ByteArray) (hA : A.length ≤ 2147483647) (hB : B.length ≤ 2147483647) : ∀ (ra rb : List ByteArray) (k : Nat) (i : Int), Lt A i ra → Lt B i rb → (∀ x ∈ ra, Okp (dl x) ∧ x.size ≤ N) → (∀ x ∈ rb, Okp (dl x) ∧ x.size ≤ N) → 2 * ra.length + 2 * N + 40 < k →
    hoggetref04_Compare.l0 k A B i = some (rowsL partsC (ra.map dl) (rb.map dl))
  | [], rb, k, i, hra, hrb, _, _, hk => by
    obtain ⟨k, rfl, hk'⟩ := pred hk
    obtain ⟨k, rfl, hk'⟩ := pred (show 0 < k by omega)
    simp only [hoggetref04_Compare.l0]
    rw [if_neg hra.not_lt]
    simp only [hoggetref04_Compare.j3]
    rw [if_neg (by decide), rorder_eq]
    have la := hra.length
    have lb := hrb.length
    simp only [Option.bind_some]
    cases rb with
    | nil => simp at la lb; simp [rowsL, cmpI]; omega
    | cons y t =>
      simp at la lb
      simp only [List.map_nil, List.map_cons, rowsL]
      unfold cmpI
      rw [if_pos (by omega)]
  | x :: ra, [], k, i, hra, hrb, _, _, hk => by
    obtain ⟨k, rfl, hk'⟩ := pred hk
    obtain ⟨k, rfl, hk'⟩ := pred (show 0 < k by omega)
    simp only [hoggetref04_Compare.l0]
    rw [if_pos hra.lt, decide_eq_false hrb.not_lt]
    simp only [hoggetref04_Compare.j3]
    rw [if_neg (by decide), rorder_eq]
    have la := hra.length
    have lb := hrb.length
    simp at la lb
    simp only [Option.bind_some, List.map_nil, List.map_cons, rowsL]
    unfold cmpI
    rw [if_neg (by omega), if_pos (by omega)]
  | x :: ra, y :: rb, k, i, hra, hrb, ha, hb, hk => by
    rw [List.length_cons] at hk
    obtain ⟨k, rfl, hk'⟩ := pred hk
    obtain ⟨k, rfl, hk'⟩ := pred (show 0 < k by omega)
    have hx := ha x List.mem_cons_self
    have hy := hb y List.mem_cons_self
    simp only [hoggetref04_Compare.l0]
    rw [if_pos hra.lt, decide_eq_true hrb.lt]
    simp only [hoggetref04_Compare.j3]
    rw [if_pos trivial, if_pos hra.ge, if_pos hra.lt, if_pos hrb.lt, hra.rd, hrb.rd, rparts_eq k x y (by omega) (by omega) hx.1 hy.1 (by omega), hra.wrap (by omega)]
    simp only [Option.bind_some, List.map_cons, rowsL]
    by_cases h0 : partsC (dl x) (dl y) = 0
    · rw [if_pos h0, if_pos h0]
      exact rrows_eq N hN A B hA hB ra rb k (i + 1) hra.next hrb.next (fun z hz => ha z (List.mem_cons_of_mem _ hz)) (fun z hz => hb z (List.mem_cons_of_mem _ hz)) (by omega)
    · rw [if_neg h0, if_neg h0]
theorem map_dl_mk (l : List (List UInt8)) : (l.map mk).map dl = l := by
  rw [List.map_map]
  exact (List.map_congr_left (fun _ _ => rfl)).trans (List.map_id l)
def cmpT (v w : Ver) : Int := if rightB v = true ∧ rightB w = true then cmpV v w else 0
theorem rCompare_eq (k : Nat) (v w : Ver) (hv : v.2.2.2.size ≤ 1000000) (hw : w.2.2.2.size ≤ 1000000) (hk : 10000000 < k) : hoggetref04_Compare.f k v.1 v.2.1 v.2.2.1 v.2.2.2 w.1 w.2.1 w.2.2.1 w.2.2.2 = some (cmpT v w) := by
  unfold hoggetref04_Compare.f cmpT
  rw [rRight_eq k v.1 v.2.1 v.2.2.1 v.2.2.2 (by omega) (by omega), rRight_eq k w.1 w.2.1 w.2.2.1 w.2.2.2 (by omega) (by omega)]
  simp only [Option.bind_some]
  change (if rightB v = true then (hoggetref04_Compare.j0 k (!rightB w) _ _ _ _ _ _ _ _) else _) = _
  obtain ⟨k, rfl, hk'⟩ := pred hk
  simp only [hoggetref04_Compare.j0]
  cases hrv : rightB v with
  | false => simp
  | true =>
    cases hrw : rightB w with
    | false => simp
    | true =>
      obtain ⟨_, _, _, pv⟩ := right_nums hrv
      obtain ⟨_, _, _, pw⟩ := right_nums hrw
      simp only [Bool.not_true, Bool.false_eq_true, if_false, if_true, and_self, rorder_eq, Option.bind_some]
      unfold cmpV
      have cz : ∀ a b : Int, cmpI a b = 0 ↔ a = b := fun a b => ⟨fun h => cmpI_ord.zero a b trivial trivial h, fun h => by rw [h]; exact cmpI_ord.refl b⟩
      by_cases h1 : v.1 = w.1
      · rw [if_pos h1, if_pos ((cz _ _).2 h1)]
        by_cases h2 : v.2.1 = w.2.1
        · rw [if_pos h2, if_pos ((cz _ _).2 h2)]
          by_cases h3 : v.2.2.1 = w.2.2.1
          · rw [if_pos h3, if_pos ((cz _ _).2 h3)]
            obtain ⟨k, rfl, hk'⟩ := pred (show 9999990 < k by omega)
            simp only [hoggetref04_Compare.j1, toList_eq]
            have lv := dl_len v.2.2.2
            have lw := dl_len w.2.2.2
            change (if dl v.2.2.2 = [] then _ else (if (dl w.2.2.2 == []) = true then _ else _)) = _
            have hsm : hoggetref04_small.f v.2.2.2 w.2.2.2 = some (if dl v.2.2.2 = [] ∧ dl w.2.2.2 = [] then 0 else 1) := by
              unfold hoggetref04_small.f
              rw [toList_eq, toList_eq]
              change (if dl v.2.2.2 = [] then (if dl w.2.2.2 = [] then _ else _) else _) = _
              by_cases a : dl v.2.2.2 = [] <;> by_cases b : dl w.2.2.2 = [] <;> simp [a, b]
            rw [rorder_eq, hsm]
            simp only [Option.bind_some, if_true]
            unfold cmpP
            by_cases ea : dl v.2.2.2 = []
            · rw [if_pos ea]
              by_cases eb : dl w.2.2.2 = []
              · rw [if_pos ⟨ea, eb⟩, if_pos (ea.trans eb.symm), Int.mul_zero]
                exact congrArg some (by unfold wrap64; omega)
              · have : 0 < (dl w.2.2.2).length := List.length_pos_iff.2 eb
                rw [if_neg (fun h => eb h.2), if_neg (fun h => eb (h.symm.trans ea)), if_pos ea]
                rw [ea] at lv
                simp at lv
                unfold cmpI
                rw [if_neg (by omega), if_pos (by omega)]
                exact congrArg some (by unfold wrap64; omega)
            · have : 0 < (dl v.2.2.2).length := List.length_pos_iff.2 ea
              rw [if_neg ea]
              by_cases eb : dl w.2.2.2 = []
              · rw [if_pos (by rw [eb]; rfl), if_neg (fun h => ea h.1), if_neg (fun h => ea (h.trans eb)), if_neg ea, if_pos eb]
                rw [eb] at lw
                simp at lw
                unfold cmpI
                rw [if_pos (by omega)]
                exact congrArg some (by unfold wrap64; omega)
              · have ebb : ¬ (dl w.2.2.2 == []) = true := by simpa using eb
                have c1 := rCut_eq 46 k v.2.2.2 (by omega) (by omega)
                have c2 := rCut_eq 46 k w.2.2.2 (by omega) (by omega)
                have e46' : (((46 : UInt8).toNat : Nat) : Int) = 46 := rfl
                rw [e46'] at c1 c2
                have n1 := cuts_len 46 (dl v.2.2.2)
                have n2 := cuts_len 46 (dl w.2.2.2)
                rw [if_neg ebb, c1, c2]
                simp only [Option.bind_some]
                rw [rrows_eq 1000000 (by omega) _ _ (by rw [List.length_map]; omega) (by rw [List.length_map]; omega) _ _ k 0 (Lt.zero _) (Lt.zero _)
                  (fun x hx => by
                    obtain ⟨y, hy, rfl⟩ := List.mem_map.1 hx
                    have := cuts_le 46 _ y hy
                    exact ⟨preB_parts pv ea y hy, by rw [mk_size]; omega⟩)
                  (fun x hx => by
                    obtain ⟨y, hy, rfl⟩ := List.mem_map.1 hx
                    have := cuts_le 46 _ y hy
                    exact ⟨preB_parts pw eb y hy, by rw [mk_size]; omega⟩) (by rw [List.length_map]; omega), map_dl_mk, map_dl_mk]
                by_cases eab : dl v.2.2.2 = dl w.2.2.2
                · rw [if_pos eab, eab, (rowsL_ord partsC_ord).refl]
                · rw [if_neg eab, if_neg ea, if_neg eb]
          · rw [if_neg h3, if_neg (fun h => h3 ((cz _ _).1 h))]
        · rw [if_neg h2, if_neg (fun h => h2 ((cz _ _).1 h))]
      · rw [if_neg h1, if_neg (fun h => h1 ((cz _ _).1 h))]
end Go.Proofs.YtijooffpjfhidaaGreatDoor.Vp
end
section
namespace Go.Proofs.YtijooffpjfhidaaGreatDoor.Vp
open Go Go.RowKit Go.Proofs.YtijooffpjfhidaaGreatDoorW.PrintWords Go.Proofs.YtijooffpjfhidaaGreatDoor.Txt Go.Proofs.YtijooffpjfhidaaGreatDoor.Trim Go.Proofs.YtijooffpjfhidaaGreatDoor.Num Go.Proofs.YtijooffpjfhidaaGreatDoor.Seq Go.Proofs.YtijooffpjfhidaaGreatDoor.G Go.Proofs.YtijooffpjfhidaaGreatDoor.Cut
theorem count_cuts (c : UInt8) : ∀ l : List UInt8, (cuts c l).length = Lib.countByte l c + 1
  | [] => rfl
  | x :: r => by
    have ih := count_cuts c r
    unfold Lib.countByte at ih ⊢
    rw [cuts_cons, List.count_cons]
    by_cases h : x = c
    · rw [if_pos h, if_pos (by simpa using h), List.length_cons, ih]
    · rw [if_neg h, if_neg (by simpa using h), List.length_cons, List.length_tail, ih]; omega
theorem idx_eq (s : ByteArray) : strings_Index.f s ⟨#[46]⟩ = some (Lib.indexByte (dl s) 46) := by
  unfold strings_Index.f
  exact if_pos rfl
theorem cnt_eq (s : ByteArray) : strings_Count.f s ⟨#[46]⟩ = some ((Lib.countByte (dl s) 46 : Nat) : Int) := by
  unfold strings_Count.f
  exact if_pos rfl
theorem scut_eq (s : ByteArray) (hs : s.size ≤ 9223372036854775807) : strings_Cut.f s ⟨#[45]⟩ = some (Cut.cutB s 45) := by
  unfold strings_Cut.f
  exact (if_pos rfl).trans (if_pos hs)
theorem wrapN (q : Nat) (h : q ≤ 4294967290) : wrap64 ((q : Int) + 1) = ((q + 1 : Nat) : Int) := by rw [wrapS (by omega) (by omega)]; omega
theorem set_take {α : Type} (L : List α) (i : Nat) (x : α) (h : i < L.length) : (L.set i x).take (i + 1) = L.take i ++ [x] := by
  rw [List.take_add_one, List.take_set_of_le (Nat.le_refl i), List.getElem?_set_self h]
  rfl
theorem split_step (k q i n : Nat) (t x1 x2 : ByteArray) (L : List ByteArray) (hidx : Lib.indexByte (dl t) 46 = (q : Int)) (h1 : t.extract 0 q = x1) (h2 : t.extract (q + 1) t.size = x2) (hq : q < t.size) (hs : t.size ≤ 2147483647) (hi : i < n) (hL : i < L.length) (hn : i ≤ 2147483647) :
    strings_genSplit.l0 (k + 1) t ⟨#[46]⟩ 0 (n : Int) L (i : Int) = strings_genSplit.l0 k x2 ⟨#[46]⟩ 0 (n : Int) (L.set i x1) ((i + 1 : Nat) : Int) := by
  have w0 : wrap64 ((q : Int) + 0) = q := by rw [Int.add_zero]; exact wrapS (by omega) (by omega)
  have w1 := wrapN q (by omega)
  have w2 := wrapN i (by omega)
  have c1 : (i : Int) < (n : Int) := by omega
  have c2 : ¬ (q : Int) < 0 := by omega
  have c3 : 0 ≤ (q : Int) := by omega
  have c4 : (q : Int) ≤ t.size := by omega
  have c5 : 0 ≤ (i : Int) := by omega
  have c6 : (i : Int) < (L.length : Int) := by omega
  have c7 : 0 ≤ ((q + 1 : Nat) : Int) := by omega
  have c8 : ((q + 1 : Nat) : Int) ≤ t.size := by omega
  have e1 : (q : Int).toNat = q := by omega
  have e2 : ((q + 1 : Nat) : Int).toNat = q + 1 := by omega
  have e3 : (i : Int).toNat = i := by omega
  simp only [strings_genSplit.l0]
  rw [if_pos c1, idx_eq, hidx, Option.bind_some, if_neg c2, w0, if_pos c3, if_pos c4, if_pos c5, if_pos c6, show (((⟨#[46]⟩ : ByteArray).size : Nat) : Int) = 1 from rfl, w1, if_pos c7, if_pos c8, w2, e1, e2, e3, h1, h2]
theorem split_loop : ∀ (j k : Nat) (t : ByteArray) (L : List ByteArray) (i : Nat), (cuts 46 (dl t)).length = j + 1 → L.length = i + j + 1 → i + j ≤ 2147483647 → t.size ≤ 2147483647 → j < k →
    strings_genSplit.l0 k t ⟨#[46]⟩ 0 ((i + j : Nat) : Int) L (i : Int) = some (L.take i ++ (cuts 46 (dl t)).map mk)
  | 0, k, t, L, i, hc, hL, hb, hs, hk => by
    obtain ⟨k, rfl, hk'⟩ := pred hk
    have hw : wrap64 ((i : Int) + 1) = i + 1 := wrapS (by omega) (by omega)
    simp only [strings_genSplit.l0]
    rw [if_neg (by omega), if_pos (by omega), if_pos (by omega), hw, if_pos (by omega), if_pos (by omega)]
    have e1 : (i : Int).toNat = i := by omega
    have e2 : ((i : Int) + 1).toNat = i + 1 := by omega
    rw [e1, e2, set_take _ _ _ (by omega)]
    have hcc := cuts_cut 46 (dl t)
    have hb2 := cutL_back 46 (dl t)
    cases hm : (cutL 46 (dl t)).2.2 with
    | true =>
      rw [hm, if_pos rfl] at hcc
      rw [hcc, List.length_cons] at hc
      have := List.length_pos_iff.2 (cuts_ne 46 (cutL 46 (dl t)).2.1)
      omega
    | false =>
      rw [hm, if_neg (by decide)] at hcc
      rw [hcc, (hb2.2 hm).1]
      simp [mk_dl]
  | j + 1, k, t, L, i, hc, hL, hb, hs, hk => by
    obtain ⟨k, rfl, hk'⟩ := pred hk
    have hcc := cuts_cut 46 (dl t)
    have hidx := cutL_index 46 (dl t)
    have hcb : Cut.cutB t 46 = (mk (cutL 46 (dl t)).1, mk (cutL 46 (dl t)).2.1, (cutL 46 (dl t)).2.2) := cutB_eq t 46
    have hlt := Cut.indexByte_lt t.data.toList 46
    rw [len] at hlt
    cases hm : (cutL 46 (dl t)).2.2 with
    | false =>
      rw [hm, if_neg (by decide)] at hcc
      rw [hcc] at hc
      simp at hc
    | true =>
      rw [hm, if_pos rfl] at hcc
      have hge : 0 ≤ Lib.indexByte (dl t) 46 := by
        apply Classical.byContradiction
        intro hn
        rw [if_neg hn] at hidx
        rw [hidx] at hm
        cases hm
      unfold Cut.cutB at hcb
      rw [if_pos (show 0 ≤ Lib.indexByte t.data.toList 46 from hge)] at hcb
      have h1 := (Prod.mk.inj hcb).1
      have h2 := (Prod.mk.inj (Prod.mk.inj hcb).2).1
      have hlt2 := cutL_lt 46 (dl t) hm
      rw [dl_len] at hlt2
      obtain ⟨q, hq⟩ := Int.eq_ofNat_of_zero_le hge
      have hq' : Lib.indexByte t.data.toList 46 = (q : Int) := hq
      rw [hq'] at h1 h2 hlt
      rw [Int.toNat_natCast] at h1 h2
      have hc2 : (cuts 46 (cutL 46 (dl t)).2.1).length = j + 1 := by rw [hcc, List.length_cons] at hc; omega
      have hsz : (mk (cutL 46 (dl t)).2.1).size ≤ 2147483647 := by rw [mk_size]; omega
      have hst := split_step k q i (i + (j + 1)) t _ _ L hq h1 h2 (Int.ofNat_lt.1 hlt) hs (by omega) (by omega) (by omega)
      have ih := split_loop j k (mk (cutL 46 (dl t)).2.1) (L.set i (mk (cutL 46 (dl t)).1)) (i + 1) hc2 (by rw [List.length_set]; omega) (by omega) hsz (by omega)
      rw [show i + 1 + j = i + (j + 1) by omega] at ih
      rw [hst]
      rw [ih, set_take _ _ _ (by omega), hcc]
      simp [dl_mk]
theorem split_eq (k : Nat) (s : ByteArray) (hs : s.size ≤ 2147483640) (hk : s.size + 10 < k) : strings_Split.f k s ⟨#[46]⟩ = some ((cuts 46 (dl s)).map mk) := by
  have hcnt := count_cuts 46 (dl s)
  have hlen := cuts_len 46 (dl s)
  rw [dl_len] at hlen
  unfold strings_Split.f strings_genSplit.f
  rw [if_neg (by decide), toList_eq, if_neg (by decide), if_pos (by decide)]
  rw [cnt_eq]
  simp only [Option.bind_some]
  change ((strings_genSplit.j0 k s ⟨#[46]⟩ 0 (wrap64 ((Lib.countByte (dl s) 46 : Nat) + 1))).bind _) = _
  obtain ⟨n, hn⟩ : ∃ n, (cuts 46 (dl s)).length = n + 1 := ⟨(cuts 46 (dl s)).length - 1, by have := List.length_pos_iff.2 (cuts_ne 46 (dl s)); omega⟩
  have e1 : wrap64 (((Lib.countByte (dl s) 46 : Nat) : Int) + 1) = ((n + 1 : Nat) : Int) := by rw [wrapS (by omega) (by omega)]; omega
  obtain ⟨k, rfl, hk'⟩ := pred hk
  simp only [strings_genSplit.j0]
  have e2 : wrap64 ((s.size : Int) + 1) = s.size + 1 := wrapS (by omega) (by omega)
  have e3 : mn ((n + 1 : Nat) : Int) ((s.size : Int) + 1) = ((n + 1 : Nat) : Int) := by unfold mn; rw [if_neg (by omega)]
  have e4 : wrap64 (((n + 1 : Nat) : Int) - 1) = ((0 + n : Nat) : Int) := by rw [wrapS (by omega) (by omega)]; omega
  rw [e1, e2, e3, e4, if_pos (by omega), if_pos (by omega)]
  have e5 : (((n + 1 : Nat) : Int)).toNat = n + 1 := by omega
  rw [e5]
  have := split_loop n k s (List.replicate (n + 1) (⟨#[]⟩ : ByteArray)) 0 hn (by simp) (by omega) (by omega) (by omega)
  rw [show ((0 : Nat) : Int) = 0 from rfl] at this
  rw [this]
  simp
theorem or32 : ∀ d : Fin 256, (Go.bits .or .u8 (d.val : Int) 32 ≥ 97 ∧ Go.bits .or .u8 (d.val : Int) 32 ≤ 122) ↔ ((97 ≤ d.val ∧ d.val ≤ 122) ∨ (65 ≤ d.val ∧ d.val ≤ 90)) := by decide +kernel
theorem ppart_step (k : Nat) {s : ByteArray} {i : Int} {c : UInt8} {r : List UInt8} (h : At s i (c :: r)) (hs : s.size ≤ 4611686018427387904) :
    version_part.l0 (k + 1) s s.size i = if letter c = true then version_part.l0 k s s.size (i + 1) else some false := by
  simp only [version_part.l0]
  rw [if_pos h.lt, if_pos h.ge, if_pos h.lt, h.byte, h.wrap hs]
  generalize version_part.l0 k s s.size (i + 1) = X
  have ho := or32 ⟨c.toNat, UInt8.toNat_lt c⟩
  simp only at ho
  have hl : letter c = decide ((97 ≤ (c.toNat : Int) ∧ (c.toNat : Int) ≤ 122) ∨ (65 ≤ (c.toNat : Int) ∧ (c.toNat : Int) ≤ 90) ∨ (48 ≤ (c.toNat : Int) ∧ (c.toNat : Int) ≤ 57) ∨ (c.toNat : Int) = 45) := by
    unfold letter; rw [decide_eq_decide]; omega
  rw [hl]
  clear hl h
  generalize Go.bits .or .u8 (c.toNat : Int) 32 = o at *
  have ho' : (o ≥ 97 ∧ o ≤ 122) ↔ ((97 ≤ (c.toNat : Int) ∧ (c.toNat : Int) ≤ 122) ∨ (65 ≤ (c.toNat : Int) ∧ (c.toNat : Int) ≤ 90)) := by rw [ho]; omega
  clear ho
  generalize (c.toNat : Int) = d at *
  by_cases hL : (97 ≤ d ∧ d ≤ 122) ∨ (65 ≤ d ∧ d ≤ 90) ∨ (48 ≤ d ∧ d ≤ 57) ∨ d = 45
  · simp only [decide_eq_true hL, if_true]
    repeat' split
    all_goals first | rfl | (exfalso; omega)
  · simp only [decide_eq_false hL, Bool.false_eq_true, if_false]
    repeat' split
    all_goals first | rfl | (exfalso; omega)
theorem number_eq (s : ByteArray) (hs : s.size ≤ 281474976710656) : version_number.f s = some (valA (dl s), plainB (dl s), okB (dl s)) := if_pos hs
theorem plain_ok (l : List UInt8) : (plainB l == okB l) = (!plainB l || okB l) := by
  cases hp : plainB l
  · have : okB l = false := by unfold okB; rw [hp]; rfl
    rw [this]; rfl
  · cases okB l <;> rfl
theorem ppart_loop : ∀ (r : List UInt8) (k : Nat) (s : ByteArray) (i : Int), At s i r → s.size ≤ 281474976710656 → r.length < k →
    version_part.l0 k s s.size i = some (r.all letter && (!(dl s).isEmpty && decide (s.size ≤ 10) && (!plainB (dl s) || okB (dl s))))
  | [], k, s, i, h, hs, hk => by
    obtain ⟨k, rfl, hk'⟩ := pred hk
    simp only [version_part.l0]
    rw [if_neg h.not_lt, number_eq s hs]
    simp only [Option.bind_some, toList_eq, plain_ok]
    change (if dl s = [] then _ else _) = _
    by_cases he : dl s = []
    · rw [if_pos he, he]; rfl
    · rw [if_neg he]
      have : (dl s).isEmpty = false := by cases hd : dl s with
        | nil => exact absurd hd he
        | cons => rfl
      rw [this]
      by_cases h10 : s.size ≤ 10
      · rw [if_pos (by omega), decide_eq_true h10]; rfl
      · rw [if_neg (by omega), decide_eq_false h10]; rfl
  | c :: r, k, s, i, h, hs, hk => by
    obtain ⟨k, rfl, hk'⟩ := pred hk
    rw [ppart_step k h (by omega), List.all_cons]
    cases letter c
    · simp
    · rw [if_pos rfl, ppart_loop r k s (i + 1) h.next hs (by simp at hk'; omega)]; rfl
theorem part_eq (k : Nat) (s : ByteArray) (hs : s.size ≤ 281474976710656) (hk : s.size < k) : version_part.f k s = some (partB (dl s)) := by
  unfold version_part.f
  rw [ppart_loop (dl s) k s 0 (At0 s) hs (by rw [dl_len]; exact hk)]
  unfold partB
  rw [dl_len]
  congr 1
  cases (dl s).isEmpty <;> cases decide (s.size ≤ 10) <;> cases (dl s).all letter <;> cases plainB (dl s) <;> cases okB (dl s) <;> rfl
theorem within_one (k : Nat) (l : List Int) (i : Int) (x : Int) (r : List Int) (h : Lt l i (x :: r)) (hl : l.length ≤ 100) : version_within.l0 (k + 1) l l.length i = if mayN x = true then version_within.l0 k l l.length (i + 1) else some false := by
  simp only [version_within.l0]
  have hr : rd l i = x := h.rd 0
  rw [if_pos h.lt, if_pos h.ge, if_pos h.lt, hr, h.wrap (by omega)]
  by_cases h1 : x < 0
  · rw [if_pos h1, if_neg (by rw [mayN_iff]; omega)]
  · rw [if_neg h1]
    by_cases h2 : x > 999999
    · rw [if_pos h2, if_neg (by rw [mayN_iff]; omega)]
    · rw [if_neg h2, if_pos (mayN_iff.2 (by omega))]
theorem within_loop : ∀ (r : List Int) (k : Nat) (l : List Int) (i : Int), Lt l i r → l.length ≤ 100 → r.length < k → version_within.l0 k l l.length i = some (r.all mayN)
  | [], k, l, i, h, hl, hk => by
    obtain ⟨k, rfl, hk'⟩ := pred hk
    simp only [version_within.l0]
    rw [if_neg h.not_lt]; rfl
  | x :: r, k, l, i, h, hl, hk => by
    obtain ⟨k, rfl, hk'⟩ := pred hk
    rw [within_one k l i x r h hl, List.all_cons]
    cases mayN x
    · simp
    · rw [if_pos rfl, within_loop r k l (i + 1) h.next hl (by simp at hk'; omega)]; rfl
theorem within_eq (k : Nat) (a b c : Int) (hk : 5 < k) : version_within.f k [a, b, c] = some (mayN a && mayN b && mayN c) := by
  unfold version_within.f
  rw [within_loop [a, b, c] k [a, b, c] 0 (Lt.zero _) (by simp) (by simp; omega)]
  simp [Bool.and_assoc]
theorem right_go (k N : Nat) (hN : N ≤ 281474976710656) (hk : N < k) : ∀ (l : List ByteArray) (n : Nat), (∀ x ∈ l, x.size ≤ N) → n ≤ 5 → version_right.go k l n = some ((l.all fun x => partB (dl x)) && decide (n + l.length ≤ 5))
  | [], n, _, hn => by
    simp only [version_right.go, List.all_nil, Bool.true_and, List.length_nil, Nat.add_zero]
    rw [decide_eq_true hn]
  | x :: l, n, hx, hn => by
    have h1 := hx x List.mem_cons_self
    simp only [version_right.go]
    rw [part_eq k x (by omega) (by omega)]
    simp only [Option.bind_some, List.all_cons, List.length_cons]
    cases partB (dl x)
    · simp
    · rw [if_neg (by decide)]
      by_cases h5 : 5 < n + 1
      · rw [if_pos h5, decide_eq_false (by omega), Bool.and_false]
      · rw [if_neg h5, right_go k N hN hk l (n + 1) (fun y hy => hx y (List.mem_cons_of_mem _ hy)) (by omega), Bool.true_and]
        rw [show n + 1 + l.length = n + (l.length + 1) by omega]
theorem right_eq (k : Nat) (v : Ver) (hs : v.2.2.2.size ≤ 140737488351232) (hk : v.2.2.2.size + 10 < k) : version_right.f k v.1 v.2.1 v.2.2.1 v.2.2.2 = some (rightB v) := by
  unfold version_right.f rightB preB
  rw [within_eq k _ _ _ (by omega), toList_eq]
  change (if (dl v.2.2.2).isEmpty = true then _ else _) = _
  cases he : (dl v.2.2.2).isEmpty with
  | true => rw [if_pos rfl]; simp
  | false =>
    rw [if_neg (by decide), if_pos (by omega), cutsL_mk, right_go k v.2.2.2.size (by omega) (by omega) _ 0 (fun x hx => by
      obtain ⟨y, hy, rfl⟩ := List.mem_map.1 hx
      have := cuts_le 46 _ y hy
      rw [dl_len] at this
      rw [mk_size]; exact this) (by omega)]
    simp only [Option.bind_some, List.all_map, List.length_map, Nat.zero_add, Bool.false_or]
    change (if ((cuts 46 (dl v.2.2.2)).all partB && decide ((cuts 46 (dl v.2.2.2)).length ≤ 5)) = true then _ else _) = _
    cases ((cuts 46 (dl v.2.2.2)).all partB && decide ((cuts 46 (dl v.2.2.2)).length ≤ 5)) <;> simp
theorem itoa_eq (n : Int) (h : 0 ≤ n ∧ n ≤ 999999) : strconv_Itoa.f n = some (mk (Lib.decDigits n.toNat)) := by
  unfold strconv_Itoa.f Lib.itoa
  rw [if_pos (by omega), if_pos (by omega), if_neg (by omega)]
theorem print_eq (k : Nat) (v : Ver) (hs : v.2.2.2.size ≤ 140737488351232) (hk : v.2.2.2.size + 10 < k) : version_Print.f k v.1 v.2.1 v.2.2.1 v.2.2.2 = some (mk (printP v).1, (printP v).2) := by
  unfold version_Print.f printP
  rw [right_eq k v hs hk]
  simp only [Option.bind_some]
  by_cases h : rightB v = true
  · obtain ⟨h1, h2, h3, _⟩ := right_nums h
    have l1 := dec_len (n := v.1.toNat) (by omega)
    have l2 := dec_len (n := v.2.1.toNat) (by omega)
    have l3 := dec_len (n := v.2.2.1.toNat) (by omega)
    have hl := dl_len v.2.2.2
    rw [if_pos h, if_pos h, itoa_eq _ h1, itoa_eq _ h2, itoa_eq _ h3]
    simp only [Option.bind_some, e46, e45, mk_append, mk_size, List.length_append, List.length_cons, List.length_nil, toList_eq]
    rw [if_pos (by omega), if_pos (by omega), if_pos (by omega), if_pos (by omega)]
    change (if dl v.2.2.2 = [] then _ else _) = _
    unfold told
    by_cases he : dl v.2.2.2 = []
    · rw [if_pos he, if_pos he]; simp
    · rw [if_neg he, if_neg he, if_pos (by omega), if_pos (by rw [ByteArray.size_append, mk_size]; simp; omega)]
      conv => lhs; rw [← mk_dl v.2.2.2, mk_append, mk_append]
      simp
  · rw [if_neg h, if_neg h]; rfl
theorem pParse_eq (k : Nat) (s : ByteArray) (hs : s.size ≤ 2147483640) (hk : s.size + 20 < k) : version_Parse.f k s = some (flat5 (parseP (dl s))) := by
  unfold version_Parse.f
  rw [scut_eq s (by omega), cutB_eq]
  simp only [Option.bind_some]
  change ((strings_Split.f k (mk (cutL 45 (dl s)).1) ⟨#[46]⟩).bind fun l => if l.length = 3 then (if ((cutL 45 (dl s)).2.2 && (mk (cutL 45 (dl s)).2.1).toList.isEmpty) = true then _ else version_Parse.go k (mk (cutL 45 (dl s)).2.1) l 0 0 0 0) else _) = _
  have hlen := cutL_len 45 (dl s)
  rw [dl_len] at hlen
  rw [split_eq k _ (by rw [mk_size]; omega) (by rw [mk_size]; omega), dl_mk, mk_toList]
  simp only [Option.bind_some, List.length_map]
  unfold parseP
  revert hlen
  generalize cutL 45 (dl s) = C
  obtain ⟨front, pre, more⟩ := C
  intro hlen
  simp only at hlen ⊢
  have hle := cuts_le 46 front
  rcases parse3_cases more pre (cuts 46 front) with ⟨a, b, d, hcc⟩ | ⟨hn, hz⟩
  · rw [hcc] at hle ⊢
    have ha := hle a (by simp)
    have hb := hle b (by simp)
    have hd := hle d (by simp)
    rw [if_pos (show ([a, b, d] : List (List UInt8)).length = 3 from rfl), parse3_three]
    cases hm : (more && pre.isEmpty) with
    | true => simp [flat5, zeroV, e0]
    | false =>
      rw [if_neg (by decide)]
      simp only [List.map_cons, List.map_nil, version_Parse.go]
      rw [number_eq (mk a) (by rw [mk_size]; omega), number_eq (mk b) (by rw [mk_size]; omega), number_eq (mk d) (by rw [mk_size]; omega)]
      simp only [Option.bind_some, dl_mk]
      cases oa : okB a with
      | false => simp [flat5, zeroV, e0]
      | true =>
        cases ob : okB b with
        | false => simp [flat5, zeroV, e0]
        | true =>
          cases od : okB d with
          | false => simp [flat5, zeroV, e0]
          | true =>
            have na := okB_num oa
            have nb := okB_num ob
            have nd := okB_num od
            have hr : rightB ((numV a : Int), (numV b : Int), (numV d : Int), mk pre) = preB pre := by
              unfold rightB
              simp only [dl_mk]
              rw [mayN_iff.2 (by omega), mayN_iff.2 (by omega), mayN_iff.2 (by omega)]
              simp
            have hre := right_eq k ((numV a : Int), (numV b : Int), (numV d : Int), mk pre) (by simp only [mk_size]; omega) (by simp only [mk_size]; omega)
            rw [hr] at hre
            simp only at hre
            simp only [Bool.true_eq_false, if_false, if_true, Nat.zero_add, Nat.reduceAdd, Nat.succ_ne_zero, Nat.reduceEqDiff, na.2.2, nb.2.2, nd.2.2]
            rw [hre]
            simp only [Option.bind_some]
            cases preB pre <;> simp [flat5, zeroV, e0]
  · rw [hz, if_neg hn]
    simp [flat5, zeroV, e0]
theorem cmpInt_eq (a b : Int) : cmp_Compare_int.f a b = some (cmpI a b) := by
  unfold cmp_Compare_int.f cmp_isNaN_int.f cmpI
  simp only [bne_self_eq_false, Option.bind_some, Bool.false_eq_true, if_false]
  by_cases h : a < b
  · rw [if_pos h, if_pos h]
  · rw [if_neg h, if_neg h]
    by_cases h2 : a > b
    · rw [if_pos h2, if_pos h2]
    · rw [if_neg h2, if_neg h2]
theorem cmpStr_eq (a b : ByteArray) : cmp_Compare_string.f a b = some (cmpB (dl a) (dl b)) := by
  unfold cmp_Compare_string.f cmp_isNaN_string.f
  simp only [bne_self_eq_false, Option.bind_some, Bool.false_eq_true, if_false, toList_eq]
  exact cmpB_less (dl a) (dl b)
theorem parts_eq (k : Nat) (x y : ByteArray) (hx : x.size ≤ 2147483647) (hy : y.size ≤ 2147483647) (ox : Okp (dl x)) (oy : Okp (dl y)) (hk : 1 ≤ k) : version_parts.f k x y = some (partsC (dl x) (dl y)) := by
  unfold version_parts.f
  rw [number_eq x (by omega), number_eq y (by omega)]
  simp only [Option.bind_some]
  obtain ⟨k, rfl, hk'⟩ := pred (show 0 < k by omega)
  simp only [version_parts.j0]
  rw [cmpInt_eq, cmpStr_eq]
  unfold partsC
  cases hpx : plainB (dl x) with
  | true =>
    cases hpy : plainB (dl y) with
    | true =>
      rw [(okB_num (ox hpx)).2.2, (okB_num (oy hpy)).2.2]
      simp
    | false => simp
  | false =>
    cases hpy : plainB (dl y) with
    | true => simp
    | false => simp
theorem rows_loop (A B : List ByteArray) (hA : A.length ≤ 2147483647) (hB : B.length ≤ 2147483647) : ∀ (ra rb : List ByteArray) (k : Nat) (i : Int), Lt A i ra → Lt B i rb → (∀ x ∈ ra, Okp (dl x) ∧ x.size ≤ 2147483647) → (∀ x ∈ rb, Okp (dl x) ∧ x.size ≤ 2147483647) → ra.length + 1 < k →
    version_rows_string.l0 k A B (mn A.length B.length) i = some (rowsL partsC (ra.map dl) (rb.map dl))
  | [], rb, k, i, hra, hrb, _, _, hk => by
    obtain ⟨k, rfl, hk'⟩ := pred hk
    have la := hra.length
    have lb := hrb.length
    have hmn : ¬ i < mn (A.length : Int) B.length := by unfold mn; simp at la; split <;> omega
    simp only [version_rows_string.l0]
    rw [if_neg hmn, cmpInt_eq]
    simp only [Option.bind_some]
    cases rb with
    | nil => simp at la lb; simp [rowsL, cmpI]; omega
    | cons y t =>
      simp at la lb
      simp only [List.map_nil, List.map_cons, rowsL]
      unfold cmpI
      rw [if_pos (by omega)]
  | x :: ra, [], k, i, hra, hrb, _, _, hk => by
    obtain ⟨k, rfl, hk'⟩ := pred hk
    have la := hra.length
    have lb := hrb.length
    simp at la lb
    have hmn : ¬ i < mn (A.length : Int) B.length := by unfold mn; split <;> omega
    simp only [version_rows_string.l0]
    rw [if_neg hmn, cmpInt_eq]
    simp only [Option.bind_some, List.map_nil, List.map_cons, rowsL]
    unfold cmpI
    rw [if_neg (by omega), if_pos (by omega)]
  | x :: ra, y :: rb, k, i, hra, hrb, ha, hb, hk => by
    rw [List.length_cons] at hk
    obtain ⟨k, rfl, hk'⟩ := pred hk
    have hx := ha x List.mem_cons_self
    have hy := hb y List.mem_cons_self
    have l1 := hra.lt
    have l2 := hrb.lt
    have hmn : i < mn (A.length : Int) B.length := by unfold mn; split <;> omega
    simp only [version_rows_string.l0]
    rw [if_pos hmn, if_pos hra.ge, if_pos hra.lt, if_pos hrb.lt, hra.rd, hrb.rd, parts_eq k x y hx.2 hy.2 hx.1 hy.1 (by omega), hra.wrap (by omega)]
    simp only [Option.bind_some, List.map_cons, rowsL]
    by_cases h0 : partsC (dl x) (dl y) = 0
    · rw [if_pos h0, if_pos h0]
      exact rows_loop A B hA hB ra rb k (i + 1) hra.next hrb.next (fun z hz => ha z (List.mem_cons_of_mem _ hz)) (fun z hz => hb z (List.mem_cons_of_mem _ hz)) (by omega)
    · rw [if_neg h0, if_neg h0]
theorem or3_eq (k : Nat) (a b c : Int) (hk : 5 < k) : cmp_Or_int.f k [a, b, c] = some (if a = 0 then (if b = 0 then c else b) else a) := by
  obtain ⟨k, rfl, _⟩ := pred (show 4 < k by omega)
  obtain ⟨k, rfl, _⟩ := pred (show 3 < k by omega)
  obtain ⟨k, rfl, _⟩ := pred (show 2 < k by omega)
  obtain ⟨k, rfl, _⟩ := pred (show 1 < k by omega)
  have r0 : rd [a, b, c] 0 = a := rfl
  have r1 : rd [a, b, c] 1 = b := rfl
  have r2 : rd [a, b, c] 2 = c := rfl
  have w1 : wrap64 (0 + 1) = 1 := by unfold wrap64; omega
  have w2 : wrap64 (1 + 1) = 2 := by unfold wrap64; omega
  have w3 : wrap64 (2 + 1) = 3 := by unfold wrap64; omega
  have hl : (([a, b, c] : List Int).length : Int) = 3 := rfl
  unfold cmp_Or_int.f
  simp only [cmp_Or_int.l0, hl, r0, w1, r1, w2, r2, w3]
  by_cases ha : a = 0 <;> by_cases hb : b = 0 <;> by_cases hc : c = 0 <;> simp [ha, hb, hc]
theorem pCompare_eq (k : Nat) (v w : Ver) (hv : v.2.2.2.size ≤ 1000000) (hw : w.2.2.2.size ≤ 1000000) (hk : 10000000 < k) : version_Compare.f k v.1 v.2.1 v.2.2.1 v.2.2.2 w.1 w.2.1 w.2.2.1 w.2.2.2 = some (cmpT v w) := by
  unfold version_Compare.f cmpT
  rw [right_eq k v (by omega) (by omega), right_eq k w (by omega) (by omega)]
  simp only [Option.bind_some]
  obtain ⟨k, rfl, hk'⟩ := pred hk
  simp only [version_Compare.j0]
  cases hrv : rightB v with
  | false => simp
  | true =>
    cases hrw : rightB w with
    | false => simp
    | true =>
      obtain ⟨_, _, _, pv⟩ := right_nums hrv
      obtain ⟨_, _, _, pw⟩ := right_nums hrw
      rw [cmpInt_eq, cmpInt_eq, cmpInt_eq]
      simp only [Bool.not_true, Bool.false_eq_true, if_false, if_true, and_self, Option.bind_some]
      rw [or3_eq k _ _ _ (by omega)]
      simp only [Option.bind_some]
      obtain ⟨k, rfl, hk'⟩ := pred (show 9999990 < k by omega)
      have hend : ∀ b : Bool, version_Compare.j1 (k + 1) 0 b v.1 v.2.1 v.2.2.1 v.2.2.2 w.1 w.2.1 w.2.2.1 w.2.2.2 = some (if b = true then 0 else if dl v.2.2.2 = [] then 1 else if dl w.2.2.2 = [] then -1 else rowsL partsC (cuts 46 (dl v.2.2.2)) (cuts 46 (dl w.2.2.2))) := by
        intro b
        simp only [version_Compare.j1, toList_eq]
        change (if b = true then _ else if dl v.2.2.2 = [] then _ else if dl w.2.2.2 = [] then _ else _) = _
        cases b with
        | true => simp
        | false =>
          simp only [Bool.false_eq_true, if_false]
          have lv := dl_len v.2.2.2
          have lw := dl_len w.2.2.2
          by_cases ea : dl v.2.2.2 = []
          · rw [if_pos ea, if_pos ea]
          · rw [if_neg ea, if_neg ea]
            by_cases eb : dl w.2.2.2 = []
            · rw [if_pos eb, if_pos eb]
            · have n1 := cuts_len 46 (dl v.2.2.2)
              have n2 := cuts_len 46 (dl w.2.2.2)
              rw [if_neg eb, if_neg eb, split_eq k _ (by omega) (by omega), split_eq k _ (by omega) (by omega)]
              simp only [Option.bind_some]
              unfold version_rows_string.f
              rw [rows_loop _ _ (by rw [List.length_map]; omega) (by rw [List.length_map]; omega) _ _ k 0 (Lt.zero _) (Lt.zero _)
                  (fun x hx => by
                    obtain ⟨y, hy, rfl⟩ := List.mem_map.1 hx
                    have := cuts_le 46 _ y hy
                    exact ⟨preB_parts pv ea y hy, by rw [mk_size]; omega⟩)
                  (fun x hx => by
                    obtain ⟨y, hy, rfl⟩ := List.mem_map.1 hx
                    have := cuts_le 46 _ y hy
                    exact ⟨preB_parts pw eb y hy, by rw [mk_size]; omega⟩) (by rw [List.length_map]; omega), map_dl_mk, map_dl_mk]
              rfl
      unfold cmpV cmpP
      by_cases h1 : cmpI v.1 w.1 = 0
      · rw [if_pos h1, if_pos h1]
        by_cases h2 : cmpI v.2.1 w.2.1 = 0
        · rw [if_pos h2, if_pos h2]
          by_cases h3 : cmpI v.2.2.1 w.2.2.1 = 0
          · rw [if_pos h3, if_pos h3, h3, hend, toList_eq, toList_eq]
            congr 1
            change (if (dl v.2.2.2 == dl w.2.2.2) = true then _ else _) = _
            by_cases eab : dl v.2.2.2 = dl w.2.2.2
            · rw [if_pos (by simpa using eab), if_pos eab]
            · rw [if_neg (by simpa using eab), if_neg eab]
          · rw [if_neg h3, if_neg h3]
            simp [version_Compare.j1]
        · rw [if_neg h2, if_neg h2, if_neg h2]
          simp [version_Compare.j1]
      · rw [if_neg h1, if_neg h1, if_neg h1]
        simp [version_Compare.j1]
end Go.Proofs.YtijooffpjfhidaaGreatDoor.Vp
end
section
namespace Go.Proofs.YtijooffpjfhidaaGreatDoor.Vp
open Go Go.RowKit Go.Proofs.YtijooffpjfhidaaGreatDoorW.PrintWords Go.Proofs.YtijooffpjfhidaaGreatDoor.Txt Go.Proofs.YtijooffpjfhidaaGreatDoor.Trim Go.Proofs.YtijooffpjfhidaaGreatDoor.Num Go.Proofs.YtijooffpjfhidaaGreatDoor.Seq Go.Proofs.YtijooffpjfhidaaGreatDoor.G
def holdsB (b : Bd) (v : Ver) : Bool :=
  if b.1 = 1 then cmpT v b.2 == 0 else if b.1 = 2 then decide (cmpT v b.2 < 0) else if b.1 = 3 then decide (cmpT v b.2 ≤ 0) else if b.1 = 4 then decide (cmpT v b.2 > 0) else decide (cmpT v b.2 ≥ 0)
def nearB (b : Bd) (v : Ver) : Bool := !(dl b.2.2.2.2).isEmpty && (decide (b.2.1 = v.1) && decide (b.2.2.1 = v.2.1) && decide (b.2.2.2.1 = v.2.2.1))
def letsA (l : List Bd) (v : Ver) : Bool := (l.all fun b => holdsB b v) && ((dl v.2.2.2).isEmpty || l.any fun b => nearB b v)
def holdsR (r : Ran) (v : Ver) : Bool := rightR r && rightB v && r.any fun l => letsA l v
def toV (x : S35) : Ver := (x.f0, x.f1, x.f2, x.f3)
def toB (b : S45) : Bd := (b.f0, toV b.f1)
def toA (l : List S45) : List Bd := l.map toB
def toR (r : List (List S45)) : Ran := r.map toA
def SzA (n : Nat) (l : List S45) : Prop := ∀ b ∈ l, b.f1.f3.size ≤ n
def SzR (n : Nat) (r : List (List S45)) : Prop := ∀ l ∈ r, SzA n l
def bigB (b : S45) : Bool := decide (b.f1.f3.size > 300)
def bigA (l : List S45) : Bool := decide (l.length > 20) || l.any bigB
def bigR (r : List (List S45)) : Bool := decide (r.length > 20) || r.any bigA
theorem big_l1 (l : List (List S45)) (hl : l.length ≤ 1000000) (K : Nat) (R : Option Bool) (i : Int) (x : List S45) (rest : List (List S45)) (hx : Lt l i (x :: rest)) (hxl : x.length ≤ 1000000) (hR : ∀ k, K ≤ k → hoggetref05_Big.l0 k (i + 1) l = R) :
    ∀ (r : List S45) (k : Nat) (j : Int), Lt x j r → K + r.length + 1 ≤ k → hoggetref05_Big.l1 k i j l = if r.any bigB = true then some true else R
  | [], k, j, h, hk => by
    obtain ⟨k, rfl, hk'⟩ := pred (show K < k by simp at hk; omega)
    have hr : rd_L4 l i = x := hx.rd _
    simp only [hoggetref05_Big.l1]
    rw [if_pos hx.ge, if_pos hx.lt, hr, if_neg h.not_lt, hx.wrap (by omega)]
    simpa using hR k (by simp at hk; omega)
  | b :: r, k, j, h, hk => by
    obtain ⟨k, rfl, hk'⟩ := pred (show K < k by simp at hk; omega)
    have hr : rd_L4 l i = x := hx.rd _
    have hb : rd_T45 x j = b := h.rd _
    have ih := big_l1 l hl K R i x rest hx hxl hR r k (j + 1) h.next (by simp at hk; omega)
    simp only [hoggetref05_Big.l1]
    rw [if_pos hx.ge, if_pos hx.lt, hr, if_pos h.lt, if_pos h.ge, hb, h.wrap (by omega)]
    unfold hoggetref04_Big.f
    have e : decide ((b.f1.f3.size : Int) > 300) = bigB b := by unfold bigB; rw [decide_eq_decide]; omega
    simp only [Option.bind_some, List.any_cons, e]
    rw [ih]
    by_cases hq : bigB b = true
    · simp [hq]
    · simp [hq]
theorem big_l0 (l : List (List S45)) (hl : l.length ≤ 1000000) : ∀ (rest : List (List S45)) (k : Nat) (i : Int), Lt l i rest → 24 * rest.length + 1 ≤ k → hoggetref05_Big.l0 k i l = some (rest.any bigA)
  | [], k, i, h, hk => by
    obtain ⟨k, rfl, hk'⟩ := pred (show 0 < k by omega)
    simp only [hoggetref05_Big.l0]
    rw [if_neg h.not_lt]; rfl
  | x :: rest, k, i, h, hk => by
    obtain ⟨k, rfl, hk'⟩ := pred (show 0 < k by omega)
    have hr : rd_L4 l i = x := h.rd _
    simp only [hoggetref05_Big.l0]
    rw [if_pos h.lt, if_pos h.ge, hr, List.any_cons]
    simp only [List.length_cons] at hk
    by_cases h20 : (x.length : Int) > 20
    · rw [if_pos h20]
      have : bigA x = true := by unfold bigA; rw [decide_eq_true (by omega)]; rfl
      rw [this]; rfl
    · rw [if_neg h20]
      have h1 := big_l1 l hl (24 * rest.length + 1) (some (rest.any bigA)) i x rest h (by omega) (fun k hk => big_l0 l hl rest k (i + 1) h.next hk) x k 0 (Lt.zero x) (by omega)
      rw [h1]
      have : bigA x = x.any bigB := by unfold bigA; rw [decide_eq_false (by omega), Bool.false_or]
      rw [this]
      cases x.any bigB <;> simp
theorem rBig_eq (k : Nat) (r : List (List S45)) (hk : 1000 < k) : hoggetref05_Big.f k r = some (bigR r) := by
  unfold hoggetref05_Big.f bigR
  by_cases h : (r.length : Int) > 20
  · rw [if_pos h, decide_eq_true (by omega)]; rfl
  · rw [if_neg h, decide_eq_false (by omega), Bool.false_or]
    exact big_l0 r (by omega) r k 0 (Lt.zero r) (by omega)
theorem bigR_false {r : List (List S45)} (h : bigR r = false) : r.length ≤ 20 ∧ (∀ l ∈ r, l.length ≤ 20) ∧ SzR 300 r := by
  unfold bigR at h
  rw [Bool.or_eq_false_iff] at h
  have hl : ∀ l ∈ r, bigA l = false := fun l hl => by
    have := List.any_eq_false.1 h.2 l hl
    simpa using this
  refine ⟨by have := of_decide_eq_false h.1; omega, fun l hm => ?_, fun l hm b hb => ?_⟩
  · have := hl l hm
    unfold bigA at this
    rw [Bool.or_eq_false_iff] at this
    have := of_decide_eq_false this.1; omega
  · have := hl l hm
    unfold bigA at this
    rw [Bool.or_eq_false_iff] at this
    have h2 := List.any_eq_false.1 this.2 b hb
    unfold bigB at h2
    simp at h2; omega
theorem own_l0 (l : List (List S45)) (hl : l.length ≤ 1000000) : ∀ (rest : List (List S45)) (k : Nat) (i : Int) (acc : List (List S45)), Lt l i rest → (∀ x ∈ rest, x.length ≤ 1000000) → acc.length + rest.length ≤ 1000000 → rest.length < k → hoggetref05_Own.l0 k i l acc = some (acc ++ rest)
  | [], k, i, acc, h, _, _, hk => by
    obtain ⟨k, rfl, hk'⟩ := pred hk
    simp only [hoggetref05_Own.l0]
    rw [if_neg h.not_lt, List.append_nil]
  | x :: rest, k, i, acc, h, hx, ha, hk => by
    obtain ⟨k, rfl, hk'⟩ := pred hk
    have hr : rd_L4 l i = x := h.rd _
    have hx1 := hx x List.mem_cons_self
    simp only [List.length_cons] at ha hk'
    simp only [hoggetref05_Own.l0, List.nil_append, List.length_nil, Nat.zero_add]
    rw [if_pos h.lt, if_pos h.ge, hr, if_pos (by omega), if_pos (by omega), h.wrap (by omega), own_l0 l hl rest k (i + 1) (acc ++ [x]) h.next (fun y hy => hx y (List.mem_cons_of_mem _ hy)) (by rw [List.length_append, List.length_singleton]; omega) (by omega)]
    simp
theorem rOwn_eq (k : Nat) (r : List (List S45)) (hl : r.length ≤ 1000) (hx : ∀ x ∈ r, x.length ≤ 1000000) (hk : r.length < k) : hoggetref05_Own.f k r = some r := by
  unfold hoggetref05_Own.f
  rw [own_l0 r (by omega) r k 0 [] (Lt.zero r) hx (by simp; omega) hk, List.nil_append]
def neB (a b : S45) : Bool := !(a.f0 == b.f0) || ((!(a.f1.f0 == b.f1.f0)) || (!(a.f1.f1 == b.f1.f1)) || (!(a.f1.f2 == b.f1.f2)) || (!(a.f1.f3.toList == b.f1.f3.toList)))
theorem neB_iff (a b : S45) : neB a b = false ↔ a = b := by
  obtain ⟨a0, ⟨a1, a2, a3, a4⟩⟩ := a
  obtain ⟨b0, ⟨b1, b2, b3, b4⟩⟩ := b
  unfold neB
  simp only [Bool.or_eq_false_iff, Bool.not_eq_false', beq_iff_eq, S45.mk.injEq, S35.mk.injEq, toList_eq]
  constructor
  · rintro ⟨rfl, ⟨⟨rfl, rfl⟩, rfl⟩, h⟩
    exact ⟨rfl, rfl, rfl, rfl, ext h⟩
  · rintro ⟨rfl, rfl, rfl, rfl, rfl⟩
    exact ⟨rfl, ⟨⟨rfl, rfl⟩, rfl⟩, rfl⟩
open Classical in
theorem same_l1 (l m : List (List S45)) (hl : l.length ≤ 1000000) (K : Nat) (R : Option Bool) (i : Int) (x y : List S45) (rl rm : List (List S45)) (hx : Lt l i (x :: rl)) (hy : Lt m i (y :: rm)) (hxl : x.length ≤ 1000000)
    (hR : ∀ k, K ≤ k → hoggetref05_Same.l0 k (i + 1) l m = R) :
    ∀ (a b : List S45) (k : Nat) (j : Int), Lt x j a → Lt y j b → a.length = b.length → K + a.length + 1 ≤ k → hoggetref05_Same.l1 k i j l m = if a = b then R else some false
  | [], b, k, j, ha, hb, hab, hk => by
    obtain ⟨k, rfl, hk'⟩ := pred (show K < k by simp at hk; omega)
    have hr : rd_L4 l i = x := hx.rd _
    obtain rfl : b = [] := by cases b; rfl; simp at hab
    simp only [hoggetref05_Same.l1]
    rw [if_pos hx.ge, if_pos hx.lt, hr, if_neg ha.not_lt, hx.wrap (by omega)]
    simpa using hR k (by simp at hk; omega)
  | u :: a, [], k, j, ha, hb, hab, hk => by simp at hab
  | u :: a, v :: b, k, j, ha, hb, hab, hk => by
    obtain ⟨k, rfl, hk'⟩ := pred (show K < k by simp at hk; omega)
    have hr : rd_L4 l i = x := hx.rd _
    have hs : rd_L4 m i = y := hy.rd _
    have hu : rd_T45 x j = u := ha.rd _
    have hv : rd_T45 y j = v := hb.rd _
    have ih := same_l1 l m hl K R i x y rl rm hx hy hxl hR a b k (j + 1) ha.next hb.next (by simpa using hab) (by simp at hk; omega)
    have hne := neB_iff u v
    unfold neB at hne
    simp only [hoggetref05_Same.l1]
    rw [if_pos hx.ge, if_pos hx.lt, hr, if_pos ha.lt, if_pos ha.ge, if_pos hy.lt, hs, if_pos hb.lt, hu, hv, ha.wrap (by omega)]
    by_cases e : u = v
    · have hn := hne.2 e
      simp only [Bool.or_assoc] at hn
      rw [if_neg (by rw [hn]; decide), ih]
      subst e
      by_cases e2 : a = b
      · rw [if_pos e2, if_pos (by rw [e2])]
      · rw [if_neg e2, if_neg (fun h => e2 (List.cons.inj h).2)]
    · have hn : ¬ neB u v = false := fun h => e ((neB_iff u v).1 h)
      unfold neB at hn
      rw [Bool.not_eq_false] at hn
      simp only [Bool.or_assoc] at hn
      rw [if_pos hn, if_neg (fun h => e (List.cons.inj h).1)]
open Classical in
theorem same_l0 (l m : List (List S45)) (hl : l.length ≤ 1000000) (M : Nat) (hM : M ≤ 1000000) : ∀ (a b : List (List S45)) (k : Nat) (i : Int), Lt l i a → Lt m i b → a.length = b.length → (∀ x ∈ a, x.length ≤ M) → (M + 2) * a.length + 1 ≤ k → hoggetref05_Same.l0 k i l m = some (decide (a = b))
  | [], b, k, i, ha, hb, hab, hs, hk => by
    obtain ⟨k, rfl, hk'⟩ := pred (show 0 < k by omega)
    obtain rfl : b = [] := by cases b; rfl; simp at hab
    simp only [hoggetref05_Same.l0]
    rw [if_neg ha.not_lt]; simp
  | u :: a, [], k, i, ha, hb, hab, hs, hk => by simp at hab
  | u :: a, v :: b, k, i, ha, hb, hab, hs, hk => by
    obtain ⟨k, rfl, hk'⟩ := pred (show 0 < k by omega)
    have hr : rd_L4 l i = u := ha.rd _
    have hs2 : rd_L4 m i = v := hb.rd _
    have hu := hs u List.mem_cons_self
    rw [List.length_cons, Nat.mul_add, Nat.mul_one] at hk
    simp only [hoggetref05_Same.l0]
    rw [if_pos ha.lt, if_pos ha.ge, if_pos hb.lt, hr, hs2]
    by_cases e : (u.length : Int) = (v.length : Int)
    · rw [if_pos e]
      have h1 := same_l1 l m hl ((M + 2) * a.length + 1) _ i u v a b ha hb (by omega) (fun k hk => same_l0 l m hl M hM a b k (i + 1) ha.next hb.next (by simpa using hab) (fun x hx => hs x (List.mem_cons_of_mem _ hx)) hk) u v k 0 (Lt.zero u) (Lt.zero v) (by omega) (by omega)
      rw [h1]
      by_cases e1 : u = v
      · subst e1
        simp
      · rw [if_neg e1, decide_eq_false (fun h => e1 (List.cons.inj h).1)]
    · rw [if_neg e, decide_eq_false (fun h => e (by rw [(List.cons.inj h).1]))]
open Classical in
theorem rSame_eq (k : Nat) (a b : List (List S45)) (M : Nat) (hM : M ≤ 1000000) (hl : a.length ≤ 1000000) (hs : ∀ x ∈ a, x.length ≤ M) (hk : (M + 2) * a.length + 1 ≤ k) : hoggetref05_Same.f k a b = some (decide (a = b)) := by
  unfold hoggetref05_Same.f
  by_cases h : (a.length : Int) = (b.length : Int)
  · rw [if_pos h]
    exact same_l0 a b hl M hM a b k 0 (Lt.zero a) (Lt.zero b) (by omega) hs hk
  · rw [if_neg h, decide_eq_false (fun e => h (by rw [e]))]
end Go.Proofs.YtijooffpjfhidaaGreatDoor.Vp
end
section
namespace Go.Proofs.YtijooffpjfhidaaGreatDoor.Vp
open Go Go.RowKit Go.Proofs.YtijooffpjfhidaaGreatDoorW.PrintWords Go.Proofs.YtijooffpjfhidaaGreatDoor.Txt Go.Proofs.YtijooffpjfhidaaGreatDoor.Trim Go.Proofs.YtijooffpjfhidaaGreatDoor.Num Go.Proofs.YtijooffpjfhidaaGreatDoor.Seq Go.Proofs.YtijooffpjfhidaaGreatDoor.G
def boundOk (b : Bd) : Bool := decide (1 ≤ b.1 ∧ b.1 ≤ 5) && rightB b.2
theorem rightA_def (l : List Bd) : rightA l = (decide (l.length ≤ 8) && l.all boundOk) := rfl
theorem toA_cons (b : S45) (l : List S45) : toA (b :: l) = toB b :: toA l := rfl
theorem toR_cons (b : List S45) (l : List (List S45)) : toR (b :: l) = toA b :: toR l := rfl
theorem toA_len (l : List S45) : (toA l).length = l.length := List.length_map _
theorem toR_len (l : List (List S45)) : (toR l).length = l.length := List.length_map _
theorem rRight05_l1 (l : List (List S45)) (hl : l.length ≤ 1000000) (S K : Nat) (hS : S ≤ 2147483647) (hK : 4 * S + 80 < K) (R : Option Bool) (i : Int) (x : List S45) (rest : List (List S45)) (hx : Lt l i (x :: rest)) (hxl : x.length ≤ 1000000) (hR : ∀ k, K ≤ k → hoggetref05_Right.l0 k (i + 1) l = R) :
    ∀ (r : List S45) (k : Nat) (j : Int), Lt x j r → SzA S r → K + r.length + 1 ≤ k → hoggetref05_Right.l1 k i j l = if (toA r).all boundOk = true then R else some false
  | [], k, j, h, _, hk => by
    obtain ⟨k, rfl, hk'⟩ := pred (show K < k by simp at hk; omega)
    have hr : rd_L4 l i = x := hx.rd _
    simp only [hoggetref05_Right.l1]
    rw [if_pos hx.ge, if_pos hx.lt, hr, if_neg h.not_lt, hx.wrap (by omega)]
    simpa [toA] using hR k (by simp at hk; omega)
  | b :: r, k, j, h, hs, hk => by
    obtain ⟨k, rfl, hk'⟩ := pred (show K < k by simp at hk; omega)
    have hr : rd_L4 l i = x := hx.rd _
    have hb : rd_T45 x j = b := h.rd _
    have hbs := hs b List.mem_cons_self
    have ih := rRight05_l1 l hl S K hS hK R i x rest hx hxl hR r k (j + 1) h.next (fun c hc => hs c (List.mem_cons_of_mem _ hc)) (by simp at hk; omega)
    simp only [hoggetref05_Right.l1]
    rw [if_pos hx.ge, if_pos hx.lt, hr, if_pos h.lt, if_pos h.ge, hb, h.wrap (by omega), rRight_eq k _ _ _ _ (by omega) (by omega), ih]
    simp only [Option.bind_some]
    have hv : rightB (b.f1.f0, b.f1.f1, b.f1.f2, b.f1.f3) = rightB (toB b).2 := rfl
    rw [hv]
    have hO : boundOk (toB b) = (decide (1 ≤ b.f0 ∧ b.f0 ≤ 5) && rightB (toB b).2) := rfl
    have hall : (toA (b :: r)).all boundOk = (boundOk (toB b) && (toA r).all boundOk) := rfl
    by_cases c1 : b.f0 < 1
    · rw [if_pos c1, if_neg (by rw [hall, hO, decide_eq_false (by omega)]; simp)]
    · rw [if_neg c1]
      by_cases c2 : b.f0 > 5
      · rw [if_pos c2, if_neg (by rw [hall, hO, decide_eq_false (by omega)]; simp)]
      · rw [if_neg c2]
        rw [decide_eq_true (show 1 ≤ b.f0 ∧ b.f0 ≤ 5 by omega), Bool.true_and] at hO
        by_cases hq : rightB (toB b).2 = true
        · rw [hq] at hO
          rw [if_pos hq]
          by_cases ha : (toA r).all boundOk = true
          · rw [if_pos ha, if_pos (by rw [hall, hO, ha]; rfl)]
          · rw [if_neg ha, if_neg (by rw [hall, hO]; simpa using ha)]
        · rw [if_neg hq, if_neg]
          rw [Bool.not_eq_true] at hq
          rw [hall, hO, hq]; simp
theorem rRight05_l0 (l : List (List S45)) (hl : l.length ≤ 1000000) (S C : Nat) (hS : S ≤ 2147483647) (hC : 4 * S + 80 < C) : ∀ (rest : List (List S45)) (k : Nat) (i : Int), Lt l i rest → SzR S rest → 12 * rest.length + C ≤ k → hoggetref05_Right.l0 k i l = some ((toR rest).all rightA)
  | [], k, i, h, _, hk => by
    obtain ⟨k, rfl, hk'⟩ := pred (show 0 < k by omega)
    simp only [hoggetref05_Right.l0]
    rw [if_neg h.not_lt]; rfl
  | x :: rest, k, i, h, hs, hk => by
    obtain ⟨k, rfl, hk'⟩ := pred (show 0 < k by omega)
    have hr : rd_L4 l i = x := h.rd _
    simp only [hoggetref05_Right.l0]
    rw [if_pos h.lt, if_pos h.ge, hr, toR_cons, List.all_cons, rightA_def, toA_len]
    simp only [List.length_cons] at hk
    by_cases h8 : (x.length : Int) > 8
    · rw [if_pos h8, decide_eq_false (by omega)]; rfl
    · rw [if_neg h8, decide_eq_true (by omega), Bool.true_and]
      rw [rRight05_l1 l hl S (12 * rest.length + C) hS (by omega) (some ((toR rest).all rightA)) i x rest h (by omega) (fun k hk => rRight05_l0 l hl S C hS hC rest k (i + 1) h.next (fun y hy => hs y (List.mem_cons_of_mem _ hy)) hk) x k 0 (Lt.zero x) (hs x List.mem_cons_self) (by omega)]
      by_cases hq : (toA x).all boundOk = true
      · simp [hq]
      · simp [hq]
theorem rRight05_eq (k : Nat) (r : List (List S45)) (S : Nat) (hS : S ≤ 2147483647) (hs : SzR S r) (hk : 4 * S + 300 < k) : hoggetref05_Right.f k r = some (rightR (toR r)) := by
  unfold hoggetref05_Right.f rightR
  rw [toR_len]
  obtain ⟨k, rfl, hk'⟩ := pred (show 0 < k by omega)
  simp only [hoggetref05_Right.j0]
  by_cases h1 : (r.length : Int) < 1
  · rw [if_pos h1, decide_eq_false (by omega)]; rfl
  · rw [if_neg h1]
    by_cases h8 : (r.length : Int) > 8
    · rw [decide_eq_true h8, decide_eq_false (by omega)]; rfl
    · rw [decide_eq_false h8, decide_eq_true (by omega), if_neg (by decide), Bool.true_and]
      exact rRight05_l0 r (by omega) S (4 * S + 81) hS (by omega) r k 0 (Lt.zero r) hs (by omega)
theorem rbound_eq (k : Nat) (b : S45) (v : Ver) (hb : b.f1.f3.size ≤ 1000000) (hv : v.2.2.2.size ≤ 1000000) (hk : 10000000 < k) :
    hoggetref05_bound.f k b.f0 b.f1.f0 b.f1.f1 b.f1.f2 b.f1.f3 v.1 v.2.1 v.2.2.1 v.2.2.2 = some (holdsB (toB b) v) := by
  unfold hoggetref05_bound.f holdsB
  have := rCompare_eq k v (toV b.f1) hv hb hk
  have e : hoggetref04_Compare.f k v.1 v.2.1 v.2.2.1 v.2.2.2 b.f1.f0 b.f1.f1 b.f1.f2 b.f1.f3 = some (cmpT v (toB b).2) := this
  rw [e]
  simp only [Option.bind_some]
  have h0 : (toB b).1 = b.f0 := rfl
  rw [h0]
  (repeat' split) <;> rfl
theorem rlets_loop (x : List S45) (v : Ver) (hx : x.length ≤ 1000000) (hsx : SzA 1000000 x) (hv : v.2.2.2.size ≤ 1000000) : ∀ (r : List S45) (k : Nat) (j : Int) (near : Bool), Lt x j r → SzA 1000000 r → 10000000 + r.length < k →
    hoggetref05_lets.l0 k x near j v.1 v.2.1 v.2.2.1 v.2.2.2 = some (((toA r).all fun b => holdsB b v) && (near || (toA r).any fun b => nearB b v))
  | [], k, j, near, h, _, hk => by
    obtain ⟨k, rfl, hk'⟩ := pred hk
    simp only [hoggetref05_lets.l0]
    rw [if_neg h.not_lt]; simp [toA]
  | b :: r, k, j, near, h, hs, hk => by
    obtain ⟨k, rfl, hk'⟩ := pred hk
    have hb : rd_T45 x j = b := h.rd _
    have ih := fun n => rlets_loop x v hx hsx hv r k (j + 1) n h.next (fun c hc => hs c (List.mem_cons_of_mem _ hc)) (by simp at hk'; omega)
    simp only [hoggetref05_lets.l0]
    rw [if_pos h.lt, if_pos h.ge, hb, h.wrap (by omega), rbound_eq k b v (hs b List.mem_cons_self) hv (by simp at hk'; omega)]
    simp only [Option.bind_some, ih, toA_cons, List.all_cons, List.any_cons]
    have hn : nearB (toB b) v = (!(dl b.f1.f3).isEmpty && (decide (b.f1.f0 = v.1) && decide (b.f1.f1 = v.2.1) && decide (b.f1.f2 = v.2.2.1))) := rfl
    rw [hn]
    by_cases hq : holdsB (toB b) v = true
    · rw [if_pos hq, hq, Bool.true_and]
      cases near with
      | true => rw [if_pos rfl]; simp
      | false =>
        rw [if_neg (by decide), toList_eq]
        by_cases he : b.f1.f3.data.toList = []
        · rw [if_pos he]
          have : (dl b.f1.f3).isEmpty = true := by show b.f1.f3.data.toList.isEmpty = true; rw [he]; rfl
          rw [this]; simp
        · rw [if_neg he]
          have : (dl b.f1.f3).isEmpty = false := by
            show b.f1.f3.data.toList.isEmpty = false
            cases hd : b.f1.f3.data.toList with
            | nil => exact absurd hd he
            | cons => rfl
          rw [this]
          by_cases e1 : b.f1.f0 = v.1
          · rw [if_pos e1, decide_eq_true e1]
            by_cases e2 : b.f1.f1 = v.2.1
            · rw [if_pos e2, decide_eq_true e2]
              have : (b.f1.f2 == v.2.2.1) = decide (b.f1.f2 = v.2.2.1) := rfl
              rw [this]; simp
            · rw [if_neg e2, decide_eq_false e2]; simp
          · rw [if_neg e1, decide_eq_false e1]; simp
    · rw [if_neg hq]
      simp [hq]
theorem rlets_eq (k : Nat) (x : List S45) (v : Ver) (hx : x.length ≤ 1000000) (hsx : SzA 1000000 x) (hv : v.2.2.2.size ≤ 1000000) (hk : 11000001 < k) :
    hoggetref05_lets.f k x v.1 v.2.1 v.2.2.1 v.2.2.2 = some (letsA (toA x) v) := by
  unfold hoggetref05_lets.f letsA
  rw [rlets_loop x v hx hsx hv x k 0 _ (Lt.zero x) hsx (by omega), toList_eq]
  have : (v.2.2.2.data.toList == ([] : List UInt8)) = (dl v.2.2.2).isEmpty := by
    show ((dl v.2.2.2) == []) = _
    cases dl v.2.2.2 <;> rfl
  rw [this]
theorem rHolds_loop (l : List (List S45)) (v : Ver) (hl : l.length ≤ 1000000) (hv : v.2.2.2.size ≤ 1000000) : ∀ (rest : List (List S45)) (k : Nat) (i : Int), Lt l i rest → SzR 1000000 rest → (∀ x ∈ rest, x.length ≤ 1000000) → 11000002 + rest.length < k →
    hoggetref05_Holds.l0 k i l v.1 v.2.1 v.2.2.1 v.2.2.2 = some ((toR rest).any fun x => letsA x v)
  | [], k, i, h, _, _, hk => by
    obtain ⟨k, rfl, hk'⟩ := pred hk
    simp only [hoggetref05_Holds.l0]
    rw [if_neg h.not_lt]; rfl
  | x :: rest, k, i, h, hs, hx, hk => by
    obtain ⟨k, rfl, hk'⟩ := pred hk
    have hr : rd_L4 l i = x := h.rd _
    simp only [List.length_cons] at hk'
    simp only [hoggetref05_Holds.l0]
    rw [if_pos h.lt, if_pos h.ge, hr, h.wrap (by omega), rlets_eq k x v (hx x List.mem_cons_self) (hs x List.mem_cons_self) hv (by omega), rHolds_loop l v hl hv rest k (i + 1) h.next (fun y hy => hs y (List.mem_cons_of_mem _ hy)) (fun y hy => hx y (List.mem_cons_of_mem _ hy)) (by omega)]
    simp only [Option.bind_some, toR_cons, List.any_cons]
    cases letsA (toA x) v <;> simp
theorem rHolds_eq (k : Nat) (r : List (List S45)) (v : Ver) (hs : SzR 1000000 r) (hx : ∀ x ∈ r, x.length ≤ 1000000) (hl : r.length ≤ 1000000) (hv : v.2.2.2.size ≤ 1000000) (hk : 20000000 < k) :
    hoggetref05_Holds.f k r v.1 v.2.1 v.2.2.1 v.2.2.2 = some (holdsR (toR r) v) := by
  unfold hoggetref05_Holds.f holdsR
  rw [rRight05_eq k r 1000000 (by decide) hs (by omega), rRight_eq k _ _ _ _ (by omega) (by omega)]
  obtain ⟨k, rfl, hk'⟩ := pred (show 0 < k by omega)
  simp only [Option.bind_some, hoggetref05_Holds.j0]
  rw [rHolds_loop r v hl hv r k 0 (Lt.zero r) hs hx (by omega)]
  have : rightB (v.1, v.2.1, v.2.2.1, v.2.2.2) = rightB v := rfl
  rw [this]
  cases rightR (toR r) <;> cases rightB v <;> simp
def tailA : List Bd → List UInt8
  | [] => []
  | b :: l => 32 :: wordB b ++ tailA l
def bodyA : List Bd → List UInt8
  | [] => []
  | b :: l => wordB b ++ tailA l
theorem joinC_body : ∀ l : List Bd, joinC 32 (l.map wordB) = bodyA l
  | [] => rfl
  | [b] => by simp [joinC, bodyA, tailA]
  | b :: c :: l => by
    have ih := joinC_body (c :: l)
    rw [List.map_cons, joinC_cons 32 _ (by simp), ih]
    simp [bodyA, tailA]
theorem wordA_body (l : List Bd) : wordA l = if l = [] then [42] else bodyA l := by unfold wordA; rw [joinC_body]
def tailD : List (List Bd) → List UInt8
  | [] => []
  | l :: r => 32 :: 124 :: 124 :: 32 :: wordA l ++ tailD r
theorem joinD_tail : ∀ (l : List Bd) (r : List (List Bd)), joinD ((l :: r).map wordA) = wordA l ++ tailD r
  | l, [] => by simp [joinD, tailD]
  | l, m :: r => by
    have ih := joinD_tail m r
    rw [List.map_cons, joinD_cons _ (by simp), ih]
    simp [tailD]
def lenA (l : List S45) : Nat := (l.map fun b => 30 + b.f1.f3.size).sum
def lenR (r : List (List S45)) : Nat := (r.map fun l => 10 + lenA l).sum
theorem wordB_len {b : S45} (h : boundOk (toB b) = true) : (wordB (toB b)).length ≤ 25 + b.f1.f3.size := by
  unfold boundOk at h
  rw [Bool.and_eq_true] at h
  have ht := told_len h.2
  have h3 : (toB b).2.2.2.2.size = b.f1.f3.size := rfl
  rw [h3] at ht
  have hs : (sgn (toB b).1).length ≤ 2 := by unfold sgn; (repeat' split) <;> simp
  unfold wordB
  rw [List.length_append]; omega
end Go.Proofs.YtijooffpjfhidaaGreatDoor.Vp
end
section
namespace Go.Proofs.YtijooffpjfhidaaGreatDoor.Vp
open Go Go.RowKit Go.Proofs.YtijooffpjfhidaaGreatDoorW.PrintWords Go.Proofs.YtijooffpjfhidaaGreatDoor.Txt Go.Proofs.YtijooffpjfhidaaGreatDoor.Trim Go.Proofs.YtijooffpjfhidaaGreatDoor.Num Go.Proofs.YtijooffpjfhidaaGreatDoor.Seq Go.Proofs.YtijooffpjfhidaaGreatDoor.G
def ofV (v : Ver) : S35 := ⟨v.1, v.2.1, v.2.2.1, v.2.2.2⟩
def ofB (b : Bd) : S45 := ⟨b.1, ofV b.2⟩
def ofA (l : List Bd) : List S45 := l.map ofB
def ofR (r : Ran) : List (List S45) := r.map ofA
theorem toA_ofA : ∀ l, toA (ofA l) = l
  | [] => rfl
  | b :: l => by show toB (ofB b) :: toA (ofA l) = _; rw [toA_ofA l]; rfl
theorem toR_ofR : ∀ r, toR (ofR r) = r
  | [] => rfl
  | l :: r => by show toA (ofA l) :: toR (ofR r) = _; rw [toR_ofR r, toA_ofA l]
theorem ofA_app (a b : List Bd) : ofA (a ++ b) = ofA a ++ ofA b := List.map_append
theorem ofA_len (l : List Bd) : (ofA l).length = l.length := List.length_map _
def opI (l : List UInt8) : Int := if [60, 61].isPrefixOf l = true then 3 else if [62, 61].isPrefixOf l = true then 5 else if [60].isPrefixOf l = true then 2 else if [62].isPrefixOf l = true then 4 else if [61].isPrefixOf l = true then 1 else 0
theorem pre_take (u l : List UInt8) : u.isPrefixOf l = true ↔ u.length ≤ l.length ∧ l.take u.length = u := by
  rw [List.isPrefixOf_iff_prefix]
  constructor
  · rintro ⟨t, rfl⟩
    exact ⟨by simp, List.take_left⟩
  · rintro ⟨_, h⟩
    exact ⟨l.drop u.length, by conv => lhs; lhs; rw [← h]
                               exact List.take_append_drop _ _⟩
theorem opW_opI (l : List UInt8) : opW l = if opI l > 0 then (opI l, l.drop (sgn (opI l)).length) else (1, l) := by
  have p1 : ∀ (c : UInt8) (r : List UInt8) (a : UInt8), ([a] : List UInt8).isPrefixOf (c :: r) = decide (c = a) := fun c r a => by
    simp only [List.isPrefixOf, Bool.and_true]
    by_cases h : c = a
    · subst h; simp
    · rw [decide_eq_false h]; exact beq_eq_false_iff_ne.2 (fun e => h e.symm)
  have p2 : ∀ (c : UInt8) (r : List UInt8) (a b : UInt8), ([a, b] : List UInt8).isPrefixOf (c :: r) = (decide (c = a) && decide (r.head? = some b)) := fun c r a b => by
    have e1 : (a == c) = decide (c = a) := by
      by_cases h : c = a
      · subst h; simp
      · rw [decide_eq_false h]; exact beq_eq_false_iff_ne.2 (fun e => h e.symm)
    cases r with
    | nil => simp [List.isPrefixOf]
    | cons d r =>
      simp only [List.isPrefixOf, Bool.and_true, e1, List.head?_cons, Option.some.injEq]
      congr 1
      by_cases h : d = b
      · subst h; simp
      · rw [decide_eq_false h]; exact beq_eq_false_iff_ne.2 (fun e => h e.symm)
  cases l with
  | nil => rfl
  | cons c r =>
    unfold opI opW
    simp only [p1, p2]
    by_cases c60 : c = 60
    · subst c60
      by_cases hr : r.head? = some 61
      · simp [hr, sgn]
      · simp [hr, sgn]
    · by_cases c62 : c = 62
      · subst c62
        by_cases hr : r.head? = some 61
        · simp [hr, sgn]
        · simp [hr, sgn]
      · by_cases c61 : c = 61
        · subst c61; simp [sgn]
        · simp [c60, c62, c61]
theorem parse_sz (l : List UInt8) : (parseP l).1.2.2.2.size ≤ l.length := by
  cases h : parseP l with
  | mk v t =>
    cases t with
    | true =>
      have hr := parse_right h
      have hl := congrArg List.length hr.2
      have hd := dl_len v.2.2.2
      unfold told at hl
      show v.2.2.2.size ≤ _
      by_cases he : dl v.2.2.2 = []
      · rw [he] at hd; simp at hd; omega
      · rw [if_neg he] at hl; simp at hl; omega
    | false =>
      have := parse_none h
      subst this
      show zeroV.2.2.2.size ≤ _
      have : zeroV.2.2.2.size = 0 := by decide
      omega
theorem parse_rng (l : List UInt8) : (0 ≤ (parseP l).1.1 ∧ (parseP l).1.1 ≤ 999999) ∧ (0 ≤ (parseP l).1.2.1 ∧ (parseP l).1.2.1 ≤ 999999) ∧ (0 ≤ (parseP l).1.2.2.1 ∧ (parseP l).1.2.2.1 ≤ 999999) := by
  cases h : parseP l with
  | mk v t =>
    cases t with
    | true =>
      have hr := right_nums (parse_right h).1
      exact ⟨hr.1, hr.2.1, hr.2.2.1⟩
    | false =>
      have := parse_none h
      subst this
      decide
theorem next_pre (v : Ver) (t : Bool) : (nextV v t).2.2.2.size = 0 := by
  unfold nextV
  (repeat' split) <;> rfl
def twoP (r : List UInt8) (t : Bool) : List Bd × Bool := ([(5, (parseP r).1), (2, nextV (parseP r).1 t)], (parseP r).2 && rightB (nextV (parseP r).1 t))
def oneP : List UInt8 → List Bd × Bool
  | [] => ([], true)
  | c :: r => if c = 42 ∧ r = [] then ([], true) else if c = 94 ∨ c = 126 then twoP r (decide (c = 126)) else ([((opW (c :: r)).1, (parseP (opW (c :: r)).2).1)], (parseP (opW (c :: r)).2).2)
theorem opW_len (l : List UInt8) : (opW l).2.length ≤ l.length := by
  rw [opW_opI]
  split
  · rw [List.length_drop]; omega
  · exact Nat.le_refl _
end Go.Proofs.YtijooffpjfhidaaGreatDoor.Vp
end
section
namespace Go.Proofs.YtijooffpjfhidaaGreatDoor.Vp
open Go Go.RowKit Go.Proofs.YtijooffpjfhidaaGreatDoorW.PrintWords Go.Proofs.YtijooffpjfhidaaGreatDoor.Txt Go.Proofs.YtijooffpjfhidaaGreatDoor.Trim Go.Proofs.YtijooffpjfhidaaGreatDoor.Num Go.Proofs.YtijooffpjfhidaaGreatDoor.Seq Go.Proofs.YtijooffpjfhidaaGreatDoor.G
theorem one_word (w : List UInt8) : match wordP w with
    | none => (oneP w).2 = false
    | some a => oneP w = (a, true) ∨ ((oneP w).2 = false ∧ a.all boundOk = false) := by
  cases w with
  | nil => exact .inl rfl
  | cons c r =>
    simp only [wordP, oneP]
    by_cases h1 : c = 42 ∧ r = []
    · rw [if_pos h1, if_pos h1]; exact .inl rfl
    · rw [if_neg h1, if_neg h1]
      by_cases h2 : c = 94 ∨ c = 126
      · rw [if_pos h2, if_pos h2]
        by_cases h3 : (parseP r).2 = true
        · rw [if_pos h3]
          show twoP r _ = _ ∨ _
          unfold twoP
          rw [h3, Bool.true_and]
          by_cases h4 : rightB (nextV (parseP r).1 (decide (c = 126))) = true
          · rw [h4]; exact .inl rfl
          · rw [Bool.not_eq_true] at h4
            refine .inr ⟨h4, ?_⟩
            simp [boundOk, h4]
        · rw [if_neg h3]
          show (twoP r _).2 = false
          unfold twoP
          rw [Bool.not_eq_true] at h3
          rw [h3]; rfl
      · rw [if_neg h2, if_neg h2]
        by_cases h3 : (parseP (opW (c :: r)).2).2 = true
        · rw [if_pos h3, h3]; exact .inl rfl
        · rw [if_neg h3]
          rwa [Bool.not_eq_true] at h3
def SzP (n : Nat) (l : List Bd) : Prop := ∀ b ∈ l, b.2.2.2.2.size ≤ n
theorem oneP_sz (w : List UInt8) : SzP w.length (oneP w).1 ∧ (oneP w).1.length ≤ 2 := by
  cases w with
  | nil => exact ⟨fun b hb => by simp [oneP] at hb, by simp [oneP]⟩
  | cons c r =>
    simp only [oneP]
    split
    · exact ⟨fun b hb => by simp at hb, by simp⟩
    · split
      · refine ⟨fun b hb => ?_, by simp [twoP]⟩
        simp only [twoP, List.mem_cons, List.not_mem_nil, or_false] at hb
        have := parse_sz r
        rcases hb with rfl | rfl
        · show (parseP r).1.2.2.2.size ≤ _; simp; omega
        · have := next_pre (parseP r).1 (decide (c = 126)); simp only at this ⊢; omega
      · refine ⟨fun b hb => ?_, by simp⟩
        simp only [List.mem_singleton] at hb
        subst hb
        have h1 := parse_sz (opW (c :: r)).2
        have h2 := opW_len (c :: r)
        show (parseP (opW (c :: r)).2).1.2.2.2.size ≤ _; omega
theorem szA_ofA {n : Nat} {l : List Bd} (h : SzP n l) : SzA n (ofA l) := fun b hb => by
  obtain ⟨c, hc, rfl⟩ := List.mem_map.1 hb
  exact h c hc
def finS (o : Option (List (List S45))) : List (List S45) × Bool :=
  match o with
  | some r => if rightR (toR r) = true then (r, true) else ([], false)
  | none => ([], false)
theorem words_len (l : List UInt8) : (words l).length ≤ l.length + 1 := Nat.le_trans (List.length_filter_le _ _) (cuts_len 32 l)
theorem words_mem {l w : List UInt8} (h : w ∈ words l) : w ≠ [] ∧ w.length ≤ l.length := by
  unfold words at h
  rw [List.mem_filter] at h
  refine ⟨fun e => ?_, cuts_le 32 l w h.1⟩
  have := h.2
  rw [e] at this; simp at this
theorem finS_finR (o : Option Ran) : finS (o.bind fun r => some ([] ++ ofR r)) = (ofR (finR o).1, (finR o).2) := by
  cases o with
  | none => rfl
  | some r =>
    simp only [Option.bind_some, finS, finR, List.nil_append, toR_ofR]
    split <;> rfl
theorem cutp_eq (s : ByteArray) (u : List UInt8) (hu : u.length ≤ 100) (hs : s.size ≤ 2147483647) : strings_CutPrefix.f s (mk u) = some (if u.isPrefixOf (dl s) = true then (mk ((dl s).drop u.length), true) else (s, false)) := by
  have hd := dl_len s
  have hz := mk_size u
  have hp := pre_take u (dl s)
  unfold strings_CutPrefix.f stringslite_CutPrefix.f stringslite_HasPrefix.f
  have hx : s.extract u.length s.size = mk ((dl s).drop u.length) := by
    apply ext
    rw [extract_list]
    change ((dl s).take s.size).drop _ = _
    rw [List.take_of_length_le (by omega)]; rfl
  by_cases h1 : (s.size : Int) ≥ ((mk u).size : Int)
  · rw [if_pos h1, if_pos (by omega), if_pos (by omega), toList_eq, extract_list, mk_toList, Int.toNat_natCast, List.drop_zero, hz]
    change ((some (List.take u.length (dl s) == u)).bind _).bind _ = _
    by_cases h2 : (dl s).take u.length = u
    · rw [if_pos (hp.2 ⟨by omega, h2⟩)]
      have e : (List.take u.length (dl s) == u) = true := beq_iff_eq.2 h2
      rw [e]
      simp only [Option.bind_some, if_true]
      rw [if_pos (by omega), if_pos (by omega), hx]; rfl
    · rw [if_neg (fun e => h2 (hp.1 e).2)]
      have e : (List.take u.length (dl s) == u) = false := beq_eq_false_iff_ne.2 h2
      rw [e]; rfl
  · rw [if_neg h1]
    have : u.isPrefixOf (dl s) = false := by rw [← Bool.not_eq_true]; exact fun e => h1 (by have := (hp.1 e).1; omega)
    rw [this]; rfl
theorem hasp_eq (s : ByteArray) (hs : s.size ≤ 2147483647) : strings_HasPrefix.f s ⟨#[126]⟩ = some ([126].isPrefixOf (dl s)) := by
  have hd := dl_len s
  have hp := pre_take [126] (dl s)
  have e1 : (⟨#[126]⟩ : ByteArray) = mk [126] := rfl
  have hz : (mk [126]).size = 1 := rfl
  unfold strings_HasPrefix.f stringslite_HasPrefix.f
  rw [e1]
  by_cases h1 : (s.size : Int) ≥ ((mk [126]).size : Int)
  · rw [if_pos h1, if_pos (by omega), if_pos (by omega), toList_eq, extract_list, mk_toList, Int.toNat_natCast, List.drop_zero, hz]
    change (some (List.take 1 (dl s) == [126])).bind _ = _
    by_cases h2 : (dl s).take 1 = [126]
    · have e : (List.take 1 (dl s) == [126]) = true := beq_iff_eq.2 h2
      rw [e, hp.2 ⟨by simp; omega, h2⟩]; rfl
    · have e : (List.take 1 (dl s) == [126]) = false := beq_eq_false_iff_ne.2 h2
      have : [126].isPrefixOf (dl s) = false := by rw [← Bool.not_eq_true]; exact fun e => h2 (hp.1 e).2
      rw [e, this]; rfl
  · rw [if_neg h1]
    have : [126].isPrefixOf (dl s) = false := by rw [← Bool.not_eq_true]; exact fun e => h1 (by have := (hp.1 e).1; simp at this; omega)
    rw [this]; rfl
def sgL : List (Int × List UInt8) := [(3, [60, 61]), (5, [62, 61]), (2, [60]), (4, [62]), (1, [61])]
theorem signs_sgL : span_Print.signs = sgL.map fun x => (x.1, mk x.2) := rfl
theorem sg_off (s : ByteArray) (hs : s.size ≤ 2147483647) (op : Int) (rest : ByteArray) (hr : rest ≠ s) : ∀ l : List (Int × List UInt8), (∀ x ∈ l, x.2.length ≤ 100) → span_Parse.sg s (l.map fun x => (x.1, mk x.2)) op rest = some (op, rest)
  | [], _ => rfl
  | x :: l, h => by
    rw [List.map_cons, span_Parse.sg, cutp_eq s x.2 (h x List.mem_cons_self) hs]
    have ih := sg_off s hs op rest hr l (fun y hy => h y (List.mem_cons_of_mem _ hy))
    simp only [Option.bind_some, ih, if_neg hr]
    simp
theorem sg_on (s : ByteArray) (hs : s.size ≤ 2147483647) (x : Int × List UInt8) (l : List (Int × List UInt8)) (h : ∀ y ∈ x :: l, y.2.length ≤ 100 ∧ y.2 ≠ []) (op : Int) :
    span_Parse.sg s ((x :: l).map fun x => (x.1, mk x.2)) op s = if x.2.isPrefixOf (dl s) = true then some (x.1, mk ((dl s).drop x.2.length)) else span_Parse.sg s (l.map fun x => (x.1, mk x.2)) op s := by
  rw [List.map_cons, span_Parse.sg, cutp_eq s x.2 (h x List.mem_cons_self).1 hs]
  by_cases hp : x.2.isPrefixOf (dl s) = true
  · rw [if_pos hp, if_pos hp]
    simp only [Option.bind_some, if_true]
    have hne : mk ((dl s).drop x.2.length) ≠ s := fun e => by
      have h1 := congrArg ByteArray.size e
      rw [mk_size, List.length_drop, dl_len] at h1
      have h2 := ((pre_take _ _).1 hp).1
      rw [dl_len] at h2
      have h3 : 0 < x.2.length := List.length_pos_iff.2 (h x List.mem_cons_self).2
      omega
    rw [sg_off s hs _ _ hne l (fun y hy => (h y (List.mem_cons_of_mem _ hy)).1)]
  · rw [if_neg hp, if_neg hp]
    simp
theorem sg_eq (s : ByteArray) (hs : s.size ≤ 2147483647) : span_Parse.sg s span_Print.signs 1 s = some ((opW (dl s)).1, mk (opW (dl s)).2) := by
  have H : ∀ y ∈ sgL, y.2.length ≤ 100 ∧ y.2 ≠ [] := by decide
  rw [signs_sgL]
  unfold sgL at H ⊢
  rw [sg_on s hs _ _ H, sg_on s hs _ _ (fun y hy => H y (List.mem_cons_of_mem _ hy)), sg_on s hs _ _ (fun y hy => H y (List.mem_cons_of_mem _ (List.mem_cons_of_mem _ hy))), sg_on s hs _ _ (fun y hy => H y (List.mem_cons_of_mem _ (List.mem_cons_of_mem _ (List.mem_cons_of_mem _ hy)))),
    sg_on s hs _ _ (fun y hy => H y (List.mem_cons_of_mem _ (List.mem_cons_of_mem _ (List.mem_cons_of_mem _ (List.mem_cons_of_mem _ hy)))))]
  rw [opW_opI]
  unfold opI
  simp only
  by_cases h1 : [60, 61].isPrefixOf (dl s) = true
  · simp [h1, sgn]
  · by_cases h2 : [62, 61].isPrefixOf (dl s) = true
    · simp [h1, h2, sgn]
    · by_cases h3 : [60].isPrefixOf (dl s) = true
      · simp [h1, h2, h3, sgn]
      · by_cases h4 : [62].isPrefixOf (dl s) = true
        · simp [h1, h2, h3, h4, sgn]
        · by_cases h5 : [61].isPrefixOf (dl s) = true
          · simp [h1, h2, h3, h4, h5, sgn]
          · simp [h1, h2, h3, h4, h5, span_Parse.sg, mk_dl]
theorem above_eq (l : List UInt8) (t : Bool) : span_above.f (parseP l).1.1 (parseP l).1.2.1 (parseP l).1.2.2.1 (parseP l).1.2.2.2 t = some ((nextV (parseP l).1 t).1, (nextV (parseP l).1 t).2.1, (nextV (parseP l).1 t).2.2.1, (nextV (parseP l).1 t).2.2.2) := by
  have h := parse_rng l
  unfold span_above.f nextV
  rw [wrapS (by omega) (by omega), wrapS (by omega) (by omega), wrapS (by omega) (by omega)]
  cases t with
  | true => rfl
  | false =>
    simp only [Bool.false_eq_true, if_false]
    (repeat' split) <;> rfl
theorem pword_eq (k : Nat) (s : ByteArray) (hs : s.size ≤ 2147483640) (hk : s.size + 20 < k) : span_Parse.word k s = some (match wordP (dl s) with | some a => (ofA a, true) | none => ([], false)) := by
  have hd := dl_len s
  unfold span_Parse.word
  rw [toList_eq]
  change (if (dl s).isEmpty = true then _ else _) = _
  cases hl : dl s with
  | nil => rfl
  | cons c r =>
    rw [hl, List.length_cons] at hd
    have h0 := At0 s
    rw [hl] at h0
    have hb := h0.byte
    have e42 : (⟨#[42]⟩ : ByteArray) = mk [42] := rfl
    rw [if_neg (by simp)]
    simp only [wordP]
    by_cases h42 : c = 42 ∧ r = []
    · have : s = ⟨#[42]⟩ := dl_inj (by rw [hl, h42.1, h42.2]; rfl)
      rw [if_pos this, if_pos h42]; rfl
    · have : ¬ s = ⟨#[42]⟩ := fun e => h42 (by
        have := congrArg dl e
        rw [hl, e42, dl_mk] at this
        exact List.cons.inj this)
      have hpre : [126].isPrefixOf (c :: r) = decide (c = 126) := by
        simp only [List.isPrefixOf, Bool.and_true]
        by_cases h : c = 126
        · subst h; rfl
        · rw [decide_eq_false h]; exact beq_eq_false_iff_ne.2 (fun e => h e.symm)
      have hx1 : s.extract 1 s.size = mk r := by rw [← mk_dl s, hl, mk_extract, mk_size]; simp
      have hne : mk r ≠ s := fun e => by have := congrArg ByteArray.size e; rw [mk_size] at this; omega
      have hwide : span_Parse.wide s (decide (c = 126)) = decide (c = 94 ∨ c = 126) := by
        unfold span_Parse.wide
        rw [hb]
        have : decide ((c.toNat : Int) = 94) = decide (c = 94) := by rw [decide_eq_decide]; exact (u8_eq (d := 94)).symm
        rw [this, ← Bool.decide_or, decide_eq_decide]
        exact or_comm
      rw [if_neg this, if_neg h42, hasp_eq s (by omega), hl, hpre]
      simp only [Option.bind_some, hwide]
      by_cases hw : c = 94 ∨ c = 126
      · rw [decide_eq_true hw, if_pos hw, if_pos rfl, if_pos rfl, hx1, signs_sgL, sg_off s (by omega) _ _ hne _ (fun y hy => by revert y; decide)]
        simp only [Option.bind_some]
        rw [pParse_eq k (mk r) (by rw [mk_size]; omega) (by rw [mk_size]; omega), dl_mk]
        simp only [Option.bind_some, flat5]
        rw [above_eq]
        cases (parseP r).2 <;> simp [ofA, ofB, ofV]
      · rw [decide_eq_false hw, if_neg hw, if_neg (by decide), if_neg (by decide), sg_eq s (by omega), hl]
        simp only [Option.bind_some]
        have ho := opW_len (c :: r)
        rw [List.length_cons] at ho
        rw [pParse_eq k _ (by rw [mk_size]; omega) (by rw [mk_size]; omega), dl_mk]
        simp only [Option.bind_some, flat5]
        cases (parseP (opW (c :: r)).2).2 <;> simp [ofA, ofB, ofV]
theorem wordP_len {w : List UInt8} {a : List Bd} (h : wordP w = some a) : a.length ≤ 2 ∧ SzP w.length a := by
  have h1 := one_word w
  have h2 := oneP_sz w
  cases w with
  | nil => simp [wordP] at h; subst h; exact ⟨by simp, fun b hb => by simp at hb⟩
  | cons c r =>
    simp only [wordP] at h
    split at h
    · obtain rfl := Option.some.inj h; exact ⟨by simp, fun b hb => by simp at hb⟩
    · split at h
      · split at h
        · obtain rfl := Option.some.inj h
          refine ⟨by simp, fun b hb => ?_⟩
          simp only [List.mem_cons, List.not_mem_nil, or_false] at hb
          have := parse_sz r
          rcases hb with rfl | rfl
          · show (parseP r).1.2.2.2.size ≤ _; simp; omega
          · have := next_pre (parseP r).1 (decide (c = 126)); simp only at this ⊢; omega
        · cases h
      · split at h
        · obtain rfl := Option.some.inj h
          refine ⟨by simp, fun b hb => ?_⟩
          simp only [List.mem_singleton] at hb
          subst hb
          have h1 := parse_sz (opW (c :: r)).2
          have h2 := opW_len (c :: r)
          show (parseP (opW (c :: r)).2).1.2.2.2.size ≤ _; omega
        · cases h
theorem altP_filter : ∀ ws : List (List UInt8), altP (ws.filter fun w => !w.isEmpty) = altP ws
  | [] => rfl
  | [] :: ws => by
    rw [List.filter_cons, if_neg (by simp), altP_filter ws]
    simp only [altP, wordP, Option.bind_some, List.nil_append]
    cases altP ws <;> rfl
  | (c :: r) :: ws => by rw [List.filter_cons, if_pos (by simp), altP, altP, altP_filter ws]
theorem pread_eq (k S : Nat) (hS : S ≤ 2147483000) (hk : S + 20 < k) : ∀ (ws : List (List UInt8)) (acc : List S45), (∀ w ∈ ws, w.length ≤ S) → acc.length + 2 * ws.length < 1000000 →
    span_Parse.read k (ws.map mk) acc = some (match altP ws with | some a => (acc ++ ofA a, true) | none => ([], false))
  | [], acc, _, _ => by simp [span_Parse.read, altP, ofA]
  | w :: ws, acc, h, ha => by
    rw [List.length_cons] at ha
    have hw := h w List.mem_cons_self
    rw [List.map_cons, span_Parse.read, if_pos (by omega), pword_eq k (mk w) (by rw [mk_size]; omega) (by rw [mk_size]; omega), dl_mk]
    simp only [Option.bind_some, altP]
    cases hp : wordP w with
    | none => rfl
    | some a =>
      have hl := (wordP_len hp).1
      simp only [Bool.true_eq_false, if_false, Option.bind_some]
      rw [pread_eq k S hS hk ws (acc ++ ofA a) (fun x hx => h x (List.mem_cons_of_mem _ hx)) (by rw [List.length_append, ofA_len]; omega)]
      cases altP ws with
      | none => rfl
      | some b => simp [ofA_app]
theorem pbound_ok (b : S45) : boundOk (toB b) = (decide (1 ≤ b.f0 ∧ b.f0 ≤ 5) && rightB (toV b.f1)) := rfl
theorem pRight_l1 (all : List (List S45)) (hall : all.length ≤ 1000000) (S K : Nat) (hS : S ≤ 1000000) (hK : S + 20 < K) (R : Option Bool) (i : Int) (hi : wrap64 (i + 1) = i + 1) (x : List S45) (hxl : x.length ≤ 1000000) (hR : ∀ k, K ≤ k → span_right.l0 k all all.length (i + 1) all = R) :
    ∀ (r : List S45) (k : Nat) (j : Int), Lt x j r → SzA S r → K + r.length + 1 ≤ k → span_right.l1 k x all all.length i x x.length j all = if (r.all fun b => boundOk (toB b)) = true then (if x.length > 8 then some false else R) else some false
  | [], k, j, h, _, hk => by
    obtain ⟨k, rfl, hk'⟩ := pred (show K < k by simp at hk; omega)
    simp only [span_right.l1]
    rw [if_neg h.not_lt, hi, hR k (by simp at hk; omega), List.all_nil, if_pos rfl]
    by_cases h8 : x.length > 8
    · rw [if_pos h8, if_pos (by omega)]
    · rw [if_neg h8, if_neg (by omega)]
  | b :: r, k, j, h, hs, hk => by
    obtain ⟨k, rfl, hk'⟩ := pred (show K < k by simp at hk; omega)
    have hb : rd_T45 x j = b := h.rd _
    have hbs := hs b List.mem_cons_self
    have ih := pRight_l1 all hall S K hS hK R i hi x hxl hR r k (j + 1) h.next (fun c hc => hs c (List.mem_cons_of_mem _ hc)) (by simp at hk; omega)
    have hp : version_Print.f k b.f1.f0 b.f1.f1 b.f1.f2 b.f1.f3 = some (mk (printP (toV b.f1)).1, (printP (toV b.f1)).2) := print_eq k (toV b.f1) (by show b.f1.f3.size ≤ _; omega) (by show b.f1.f3.size + 10 < k; omega)
    have hp2 : (printP (toV b.f1)).2 = rightB (toV b.f1) := by unfold printP; split <;> simp_all
    have hO := pbound_ok b
    have hall2 : ((b :: r).all fun b => boundOk (toB b)) = (boundOk (toB b) && r.all fun b => boundOk (toB b)) := rfl
    simp only [span_right.l1]
    rw [if_pos h.lt, if_pos h.ge, if_pos h.lt, hb, hp, h.wrap (by omega)]
    simp only [Option.bind_some, hp2, ih]
    generalize (if x.length > 8 then some false else R) = Y
    by_cases hq : rightB (toV b.f1) = true
    · rw [if_pos hq]
      by_cases c1 : b.f0 < 1
      · rw [if_pos c1, if_neg (by rw [hall2, hO, decide_eq_false (by omega)]; simp)]
      · rw [if_neg c1]
        by_cases c2 : b.f0 > 5
        · rw [if_pos c2, if_neg (by rw [hall2, hO, decide_eq_false (by omega)]; simp)]
        · rw [if_neg c2]
          rw [decide_eq_true (show 1 ≤ b.f0 ∧ b.f0 ≤ 5 by omega), hq] at hO
          by_cases ha : (r.all fun b => boundOk (toB b)) = true
          · rw [if_pos ha, if_pos (by rw [hall2, hO, ha]; rfl)]
          · rw [if_neg ha, if_neg (by rw [hall2, hO]; simpa using ha)]
    · rw [Bool.not_eq_true] at hq
      rw [if_neg (by rw [hq]; decide), if_neg (c := ((b :: r).all fun b => boundOk (toB b)) = true) (by rw [hall2, hO, hq]; simp)]
theorem allB_toA (x : List S45) : (toA x).all boundOk = x.all fun b => boundOk (toB b) := by unfold toA; rw [List.all_map]; rfl
theorem pRight_l0 (all : List (List S45)) (hall : all.length ≤ 1000000) (S M C : Nat) (hM : M ≤ 1000000) (hS : S ≤ 1000000) (hC : S + 20 < C) : ∀ (rest : List (List S45)) (k : Nat) (i : Int), Lt all i rest → SzR S rest → (∀ x ∈ rest, x.length ≤ M) → (M + 2) * rest.length + C ≤ k →
    span_right.l0 k all all.length i all = some ((toR rest).all rightA && decide (1 ≤ all.length ∧ all.length ≤ 8))
  | [], k, i, h, _, _, hk => by
    obtain ⟨k, rfl, hk'⟩ := pred (show 0 < k by omega)
    simp only [span_right.l0]
    rw [if_neg h.not_lt]
    show _ = some (true && _)
    rw [Bool.true_and]
    by_cases h1 : (all.length : Int) ≥ 1
    · rw [if_pos h1]
      congr 1
      rw [decide_eq_decide]; omega
    · rw [if_neg h1, decide_eq_false (by omega)]
  | x :: rest, k, i, h, hs, hx, hk => by
    obtain ⟨k, rfl, hk'⟩ := pred (show 0 < k by omega)
    rw [List.length_cons, Nat.mul_add, Nat.mul_one] at hk
    have hr : rd_L4 all i = x := h.rd _
    have hxl := hx x List.mem_cons_self
    simp only [span_right.l0]
    rw [if_pos h.lt, if_pos h.ge, if_pos h.lt, hr]
    rw [pRight_l1 all hall S ((M + 2) * rest.length + C) hS (by omega) _ i (h.wrap (by omega)) x (by omega) (fun k hk => pRight_l0 all hall S M C hM hS hC rest k (i + 1) h.next (fun y hy => hs y (List.mem_cons_of_mem _ hy)) (fun y hy => hx y (List.mem_cons_of_mem _ hy)) hk) x k 0 (Lt.zero x) (hs x List.mem_cons_self) (by omega)]
    rw [toR_cons, List.all_cons, rightA_def, toA_len, allB_toA]
    by_cases ha : (x.all fun b => boundOk (toB b)) = true
    · rw [if_pos ha, ha, Bool.and_true]
      by_cases h8 : x.length > 8
      · rw [if_pos h8, decide_eq_false (show ¬ x.length ≤ 8 by omega)]; rfl
      · rw [if_neg h8, decide_eq_true (show x.length ≤ 8 by omega), Bool.true_and]
    · rw [if_neg ha]
      rw [Bool.not_eq_true] at ha
      rw [ha, Bool.and_false]; rfl
theorem pRight_eq (k : Nat) (all : List (List S45)) (S M : Nat) (hall : all.length ≤ 100000) (hM : M ≤ 100000) (hS : S ≤ 100000) (hs : SzR S all) (hx : ∀ x ∈ all, x.length ≤ M) (hk : (M + 2) * all.length + S + 21 ≤ k) : span_right.f k all = some (rightR (toR all)) := by
  unfold span_right.f rightR
  rw [pRight_l0 all (by omega) S M (S + 21) (by omega) (by omega) (by omega) all k 0 (Lt.zero all) hs hx (by omega), toR_len, Bool.and_comm]
theorem pgo_eq (k S : Nat) (hS : S ≤ 20000) : ∀ (ps : List (List UInt8)) (all : List (List S45)), (∀ p ∈ ps, p.length ≤ S) → SzR S all → (∀ x ∈ all, x.length ≤ 2 * S + 2) → all.length + ps.length ≤ 50000 → (2 * S + 4) * (all.length + ps.length) + S + 30 ≤ k →
    span_Parse.go k (ps.map mk) all = some (finS ((altsP ps).bind fun r => some (all ++ ofR r)))
  | [], all, _, hs, hx, ha, hk => by
    rw [List.map_nil, span_Parse.go, pRight_eq k all S (2 * S + 2) (by omega) (by omega) (by omega) hs hx (by rw [show 2 * S + 2 + 2 = 2 * S + 4 by omega]; simp at hk; omega)]
    simp only [Option.bind_some, altsP, ofR, List.map_nil, List.append_nil, finS]
    split <;> rfl
  | p :: ps, all, h, hs, hx, ha, hk => by
    rw [List.length_cons] at ha hk
    have hp := h p List.mem_cons_self
    have hcl := cuts_len 32 p
    have hmul : (2 * S + 4) * 1 ≤ (2 * S + 4) * (all.length + (ps.length + 1)) := Nat.mul_le_mul_left _ (by omega)
    rw [List.map_cons, span_Parse.go, if_pos (by rw [mk_size]; omega), if_pos (by omega), cutsL_mk, dl_mk]
    rw [pread_eq k S (by omega) (by omega) (cuts 32 p) [] (fun w hw => by have := cuts_le 32 p w hw; omega) (by simp; omega)]
    have hf := altP_filter (cuts 32 p)
    have hwd : (cuts 32 p).filter (fun w => !w.isEmpty) = words p := rfl
    rw [hwd] at hf
    rw [← hf]
    simp only [Option.bind_some, altsP, List.nil_append]
    cases hq : altP (words p) with
    | none => rfl
    | some a =>
      have hsz : SzP S a ∧ a.length ≤ 2 * S + 2 := by
        have gen : ∀ (ws : List (List UInt8)) (a : List Bd), altP ws = some a → (∀ w ∈ ws, w.length ≤ S) → SzP S a ∧ a.length ≤ 2 * ws.length := by
          intro ws
          induction ws with
          | nil => intro a h _; simp [altP] at h; subst h; exact ⟨fun b hb => by simp at hb, by simp⟩
          | cons w ws ih =>
            intro a h hw
            simp only [altP] at h
            obtain ⟨b, hb, h⟩ := Option.bind_eq_some_iff.1 h
            obtain ⟨c, hc, h⟩ := Option.bind_eq_some_iff.1 h
            obtain rfl := Option.some.inj h
            have h1 := wordP_len hb
            have h2 := ih c hc (fun x hx => hw x (List.mem_cons_of_mem _ hx))
            have h3 := hw w List.mem_cons_self
            refine ⟨fun x hx => (List.mem_append.1 hx).elim (fun hx => by have := h1.2 x hx; omega) (h2.1 x), by rw [List.length_append, List.length_cons]; omega⟩
        have hwl := words_len p
        have := gen (words p) a hq (fun w hw => by have := (words_mem hw).2; omega)
        exact ⟨this.1, by omega⟩
      simp only [Bool.true_eq_false, if_false, Option.bind_some]
      rw [pgo_eq k S hS ps (all ++ [ofA a]) (fun x hx => h x (List.mem_cons_of_mem _ hx))
        (fun x hx => (List.mem_append.1 hx).elim (hs x) (fun hx => by simp only [List.mem_singleton] at hx; subst hx; exact szA_ofA hsz.1))
        (fun x hm => (List.mem_append.1 hm).elim (hx x) (fun hm => by simp only [List.mem_singleton] at hm; subst hm; rw [ofA_len]; exact hsz.2))
        (by rw [List.length_append, List.length_singleton]; omega) (by rw [List.length_append, List.length_singleton, show all.length + 1 + ps.length = all.length + (ps.length + 1) by omega]; omega)]
      cases altsP ps with
      | none => rfl
      | some r => simp [ofR]
theorem pParse05_eq (k : Nat) (s : ByteArray) (hs : s.size ≤ 10000) (hk : 500000000 < k) : span_Parse.f k s = some (ofR (parseR (dl s)).1, (parseR (dl s)).2) := by
  have hl := cuts2_len (dl s)
  have h2 := dl_len s
  unfold span_Parse.f
  rw [if_pos (by omega), cutsD_eq]
  have hmul : (2 * 10000 + 4) * (0 + (cuts2 (dl s)).length) ≤ (2 * 10000 + 4) * 10001 := Nat.mul_le_mul_left _ (by omega)
  rw [pgo_eq k 10000 (by omega) (cuts2 (dl s)) [] (fun p hp => by have := cuts2_le _ p hp; omega) (fun l hl => by simp at hl) (fun x hx => by simp at hx) (by simp; omega) (by simp only [List.length_nil]; omega)]
  rw [finS_finR]; rfl
end Go.Proofs.YtijooffpjfhidaaGreatDoor.Vp
end
section
namespace Go.Proofs.YtijooffpjfhidaaGreatDoor.Vp
open Go Go.RowKit Go.Proofs.YtijooffpjfhidaaGreatDoorW.PrintWords Go.Proofs.YtijooffpjfhidaaGreatDoor.Txt Go.Proofs.YtijooffpjfhidaaGreatDoor.Trim Go.Proofs.YtijooffpjfhidaaGreatDoor.Num Go.Proofs.YtijooffpjfhidaaGreatDoor.Seq Go.Proofs.YtijooffpjfhidaaGreatDoor.G
theorem pholds_eq (k : Nat) (b : S45) (v : Ver) (hb : b.f1.f3.size ≤ 1000000) (hv : v.2.2.2.size ≤ 1000000) (hk : 10000000 < k) :
    span_holds.f k b.f0 b.f1.f0 b.f1.f1 b.f1.f2 b.f1.f3 v.1 v.2.1 v.2.2.1 v.2.2.2 = some (holdsB (toB b) v) := by
  unfold span_holds.f
  have e : version_Compare.f k v.1 v.2.1 v.2.2.1 v.2.2.2 b.f1.f0 b.f1.f1 b.f1.f2 b.f1.f3 = some (cmpT v (toB b).2) := pCompare_eq k v (toV b.f1) hv hb hk
  rw [e]; rfl
theorem pnear_eq (b : S45) (v : Ver) : span_near.f b.f0 b.f1.f0 b.f1.f1 b.f1.f2 b.f1.f3 v.1 v.2.1 v.2.2.1 v.2.2.2 = some (nearB (toB b) v) := by
  unfold span_near.f
  rw [toList_eq]
  have hn : nearB (toB b) v = (!(dl b.f1.f3).isEmpty && (decide (b.f1.f0 = v.1) && decide (b.f1.f1 = v.2.1) && decide (b.f1.f2 = v.2.2.1))) := rfl
  rw [hn]
  change (if dl b.f1.f3 = [] then _ else _) = _
  cases dl b.f1.f3 with
  | nil => rfl
  | cons c r =>
    rw [if_neg (by simp), Bool.and_assoc]; rfl
theorem pone_eq (k : Nat) (v : Ver) (hv : v.2.2.2.size ≤ 1000000) (hk : 10000000 < k) : ∀ (l : List S45) (may : Bool), SzA 1000000 l →
    span_Holds.one k v.1 v.2.1 v.2.2.1 v.2.2.2 l may = some (((toA l).all fun b => holdsB b v) && (may || (toA l).any fun b => nearB b v))
  | [], may, _ => by simp [span_Holds.one, toA]
  | b :: l, may, h => by
    rw [span_Holds.one, pholds_eq k b v (h b List.mem_cons_self) hv hk, pnear_eq, toA_cons]
    simp only [Option.bind_some, List.all_cons, List.any_cons]
    rw [pone_eq k v hv hk l _ (fun c hc => h c (List.mem_cons_of_mem _ hc))]
    cases holdsB (toB b) v <;> simp [Bool.or_assoc]
theorem pany_eq (k : Nat) (v : Ver) (hv : v.2.2.2.size ≤ 1000000) (hk : 10000000 < k) : ∀ r : List (List S45), SzR 1000000 r →
    span_Holds.any k v.1 v.2.1 v.2.2.1 v.2.2.2 r = some ((toR r).any fun l => letsA l v)
  | [], _ => rfl
  | l :: r, h => by
    rw [span_Holds.any, pone_eq k v hv hk l _ (h l List.mem_cons_self), pany_eq k v hv hk r (fun x hx => h x (List.mem_cons_of_mem _ hx)), toR_cons, List.any_cons, toList_eq]
    have : letsA (toA l) v = (((toA l).all fun b => holdsB b v) && (v.2.2.2.data.toList.isEmpty || (toA l).any fun b => nearB b v)) := rfl
    rw [this]
    simp only [Option.bind_some]
    cases (((toA l).all fun b => holdsB b v) && (v.2.2.2.data.toList.isEmpty || (toA l).any fun b => nearB b v)) <;> simp
theorem printP_ok (v : Ver) : (printP v).2 = rightB v := by
  unfold printP
  cases rightB v <;> rfl
theorem pHolds05_eq (k : Nat) (r : List (List S45)) (v : Ver) (hs : SzR 100000 r) (hx : ∀ x ∈ r, x.length ≤ 1000) (hl : r.length ≤ 1000) (hv : v.2.2.2.size ≤ 1000000) (hk : 20000000 < k) :
    span_Holds.f k r v.1 v.2.1 v.2.2.1 v.2.2.2 = some (holdsR (toR r) v) := by
  have hmul : (1000 + 2) * r.length ≤ (1000 + 2) * 1000 := Nat.mul_le_mul_left _ hl
  unfold span_Holds.f holdsR
  rw [print_eq k v (by omega) (by omega), pRight_eq k r 100000 1000 (by omega) (by omega) (by omega) hs hx (by omega), pany_eq k v hv (by omega) r (fun l hl b hb => by have := hs l hl b hb; omega)]
  simp only [Option.bind_some, printP_ok]
  cases rightB v <;> cases rightR (toR r) <;> simp
theorem signs_op (o : Int) (h1 : 1 ≤ o) (h5 : o ≤ 5) (s : ByteArray) (hs : s.size ≤ 1000000) (ws : List ByteArray) (hw : ws.length ≤ 1000000) : span_Print.sg o s span_Print.signs ws = some (ws ++ [mk (sgn o ++ dl s)]) := by
  have e : ∀ l : List UInt8, mk l ++ s = mk (l ++ dl s) := fun l => by have := mk_append l (dl s); rwa [mk_dl] at this
  have z1 : ∀ a : UInt8, (⟨#[a]⟩ : ByteArray).size = 1 := fun _ => rfl
  have z2 : ∀ a b : UInt8, (⟨#[a, b]⟩ : ByteArray).size = 2 := fun _ _ => rfl
  have c : o = 1 ∨ o = 2 ∨ o = 3 ∨ o = 4 ∨ o = 5 := by omega
  have a1 : ws.length < 8796093022208 := by omega
  have a2 : 1 + s.size ≤ 9223372036854775807 := by omega
  have a3 : 2 + s.size ≤ 9223372036854775807 := by omega
  rcases c with rfl | rfl | rfl | rfl | rfl <;>
  · simp only [span_Print.signs, span_Print.sg, z1, z2, a1, a2, a3, if_true, sgn]
    first | (simp; done) | (simp; exact e _)
theorem ppr_ok (k : Nat) (b : S45) (hb : b.f1.f3.size ≤ 100000) (hk : 1000000 < k) (ho : boundOk (toB b) = true) : version_Print.f k b.f1.f0 b.f1.f1 b.f1.f2 b.f1.f3 = some (mk (told (toV b.f1)), true) := by
  have h := print_eq k (toV b.f1) (by show b.f1.f3.size ≤ _; omega) (by show b.f1.f3.size + 10 < k; omega)
  have hr : rightB (toV b.f1) = true := by have := ho; rw [pbound_ok, Bool.and_eq_true] at this; exact this.2
  unfold printP at h
  rw [if_pos hr] at h
  exact h
theorem prow_eq (k : Nat) (hk : 1000000 < k) : ∀ (l : List S45) (ws : List ByteArray), SzA 100000 l → (toA l).all boundOk = true → ws.length + l.length ≤ 100000 →
    span_Print.row k l ws = some (ws ++ (toA l).map fun b => mk (wordB b))
  | [], ws, _, _, _ => by simp [span_Print.row, toA]
  | b :: l, ws, h, ho, hw => by
    rw [toA_cons, List.all_cons, Bool.and_eq_true] at ho
    rw [List.length_cons] at hw
    have hb := h b List.mem_cons_self
    have hbl := wordB_len ho.1
    have hwb : wordB (toB b) = sgn b.f0 ++ told (toV b.f1) := rfl
    rw [hwb, List.length_append] at hbl
    have h15 : 1 ≤ b.f0 ∧ b.f0 ≤ 5 := by have := ho.1; rw [pbound_ok, Bool.and_eq_true] at this; exact of_decide_eq_true this.1
    rw [span_Print.row, ppr_ok k b hb hk ho.1]
    simp only [Option.bind_some]
    rw [signs_op b.f0 h15.1 h15.2 _ (by rw [mk_size]; omega) ws (by omega)]
    simp only [Option.bind_some, dl_mk]
    rw [prow_eq k hk l _ (fun c hc => h c (List.mem_cons_of_mem _ hc)) ho.2 (by rw [List.length_append, List.length_singleton]; omega), toA_cons]
    simp [hwb]
theorem join_two (x y : List UInt8) (t : List (List UInt8)) (sep : List UInt8) : Lib.join (x :: y :: t) sep = x ++ sep ++ Lib.join (y :: t) sep := by
  rw [Lib.join_cons, Lib.join_cons]
  simp [Lib.joinTail]
theorem join_C (c : UInt8) : ∀ l : List (List UInt8), Lib.join l [c] = joinC c l
  | [] => Lib.join_nil _
  | [x] => Lib.join_one _ _
  | x :: y :: t => by
    rw [join_two, join_C c (y :: t), joinC_cons c x (by simp)]; simp
theorem join_D : ∀ l : List (List UInt8), Lib.join l [32, 124, 124, 32] = joinD l
  | [] => Lib.join_nil _
  | [x] => Lib.join_one _ _
  | x :: y :: t => by
    rw [join_two, join_D (y :: t), joinD_cons x (by simp)]; simp
theorem sjoin_eq (l : List (List UInt8)) (sep : List UInt8) (h1 : l.length ≤ 140737488355328) (h2 : (Lib.join l sep).length ≤ 140737488355328) : strings_Join.f (l.map mk) (mk sep) = some (mk (Lib.join l sep)) := by
  unfold strings_Join.f
  have e : (l.map mk).map (·.data.toList) = l := map_dl_mk l
  have e2 : (mk sep).data.toList = sep := rfl
  rw [List.length_map, if_pos h1, e, e2, if_pos h2]; rfl
theorem bodyA_len : ∀ (l : List S45), (toA l).all boundOk = true → (tailA (toA l)).length ≤ lenA l ∧ (bodyA (toA l)).length ≤ lenA l
  | [], _ => ⟨by simp [toA, tailA], by simp [toA, bodyA]⟩
  | b :: l, h => by
    rw [toA_cons, List.all_cons, Bool.and_eq_true] at h
    have ih := bodyA_len l h.2
    have hb := wordB_len h.1
    have hl : lenA (b :: l) = 30 + b.f1.f3.size + lenA l := by simp [lenA]
    rw [toA_cons, hl]
    simp only [tailA, bodyA, List.length_cons, List.length_append]
    omega
theorem wordA_len (l : List S45) (h : (toA l).all boundOk = true) : (wordA (toA l)).length ≤ lenA l + 1 := by
  rw [wordA_body]
  have := (bodyA_len l h).2
  split
  · simp
  · omega
theorem tailD_len : ∀ (r : List (List S45)), (toR r).all rightA = true → (tailD (toR r)).length ≤ lenR r
  | [], _ => by simp [toR, tailD]
  | l :: r, h => by
    rw [toR_cons, List.all_cons, Bool.and_eq_true, rightA_def, Bool.and_eq_true] at h
    have ih := tailD_len r h.2
    have hw := wordA_len l h.1.2
    have hl : lenR (l :: r) = 10 + lenA l + lenR r := by simp [lenR]
    rw [toR_cons, hl]
    simp only [tailD, List.length_cons, List.length_append]
    omega
theorem joinD_len (r : List (List S45)) (h : (toR r).all rightA = true) : (joinD ((toR r).map wordA)).length ≤ lenR r := by
  cases r with
  | nil => simp [toR, joinD]
  | cons l r =>
    have h' := h
    rw [toR_cons, List.all_cons, Bool.and_eq_true, rightA_def, Bool.and_eq_true] at h
    rw [toR_cons, joinD_tail, List.length_append]
    have h1 := wordA_len l h.1.2
    have h2 := tailD_len r h.2
    have hl : lenR (l :: r) = 10 + lenA l + lenR r := by simp [lenR]
    omega
theorem pgo05_eq (k : Nat) (hk : 1000000 < k) : ∀ (r : List (List S45)) (all : List ByteArray), SzR 100000 r → (toR r).all rightA = true → all.length + r.length ≤ 100000 →
    span_Print.go k r all = some (all ++ (toR r).map fun l => mk (wordA l))
  | [], all, _, _, _ => by simp [span_Print.go, toR]
  | l :: r, all, h, ho, ha => by
    rw [toR_cons, List.all_cons, Bool.and_eq_true, rightA_def, Bool.and_eq_true, toA_len] at ho
    rw [List.length_cons] at ha
    have h8 := of_decide_eq_true ho.1.1
    rw [span_Print.go, prow_eq k hk l [] (h l List.mem_cons_self) ho.1.2 (by simp; omega)]
    simp only [Option.bind_some, List.nil_append]
    have hsz : lenA l ≤ 8 * 100030 := by
      have gen : ∀ (l : List S45), SzA 100000 l → lenA l ≤ l.length * 100030 := by
        intro l
        induction l with
        | nil => intro _; simp [lenA]
        | cons b l ih =>
          intro h
          have := ih (fun c hc => h c (List.mem_cons_of_mem _ hc))
          have hb := h b List.mem_cons_self
          have hl : lenA (b :: l) = 30 + b.f1.f3.size + lenA l := by simp [lenA]
          rw [hl, List.length_cons, Nat.add_mul]; omega
      have := gen l (h l List.mem_cons_self)
      exact Nat.le_trans this (Nat.mul_le_mul_right 100030 h8)
    have hj : strings_Join.f (if ((toA l).map fun b => mk (wordB b)).length = 0 then [⟨#[42]⟩] else (toA l).map fun b => mk (wordB b)) ⟨#[32]⟩ = some (mk (wordA (toA l))) := by
      have e32 : (⟨#[32]⟩ : ByteArray) = mk [32] := rfl
      rw [List.length_map, toA_len, e32]
      cases l with
      | nil =>
        rw [if_pos (show ([] : List S45).length = 0 from rfl)]
        exact sjoin_eq [[42]] [32] (by decide) (by rw [join_C]; decide)
      | cons b l =>
        have hne : toA (b :: l) ≠ [] := by rw [toA_cons]; simp
        have e1 : ((toA (b :: l)).map fun b => mk (wordB b)) = ((toA (b :: l)).map wordB).map mk := by rw [List.map_map]; rfl
        have hb := (bodyA_len (b :: l) ho.1.2).2
        rw [if_neg (by simp), e1, sjoin_eq _ _ (by rw [List.length_map, toA_len]; omega) (by rw [join_C, joinC_body]; omega), join_C, joinC_body, wordA_body, if_neg hne]
    rw [hj]
    simp only [Option.bind_some]
    rw [if_pos (by omega), pgo05_eq k hk r _ (fun x hx => h x (List.mem_cons_of_mem _ hx)) ho.2 (by rw [List.length_append, List.length_singleton]; omega), toR_cons]
    simp
theorem lenR_le (r : List (List S45)) (S M : Nat) (hs : SzR S r) (hx : ∀ x ∈ r, x.length ≤ M) : lenR r ≤ r.length * (10 + M * (30 + S)) := by
  have gen : ∀ (l : List S45), SzA S l → lenA l ≤ l.length * (30 + S) := by
    intro l
    induction l with
    | nil => intro _; simp [lenA]
    | cons b l ih =>
      intro h
      have := ih (fun c hc => h c (List.mem_cons_of_mem _ hc))
      have hb := h b List.mem_cons_self
      have hl : lenA (b :: l) = 30 + b.f1.f3.size + lenA l := by simp [lenA]
      rw [hl, List.length_cons, Nat.add_mul]; omega
  induction r with
  | nil => simp [lenR]
  | cons l r ih =>
    have h1 := ih (fun x hx => hs x (List.mem_cons_of_mem _ hx)) (fun y hy => hx y (List.mem_cons_of_mem _ hy))
    have h2 := gen l (hs l List.mem_cons_self)
    have h3 : l.length * (30 + S) ≤ M * (30 + S) := Nat.mul_le_mul_right _ (hx l List.mem_cons_self)
    have hl : lenR (l :: r) = 10 + lenA l + lenR r := by simp [lenR]
    rw [hl, List.length_cons, Nat.add_mul]; omega
theorem pPrint05_eq (k : Nat) (r : List (List S45)) (hs : SzR 100000 r) (hx : ∀ x ∈ r, x.length ≤ 1000) (hl : r.length ≤ 1000) (hk : 20000000 < k) : span_Print.f k r = some (mk (printR (toR r)).1, (printR (toR r)).2) := by
  have hmul : (1000 + 2) * r.length ≤ (1000 + 2) * 1000 := Nat.mul_le_mul_left _ hl
  unfold span_Print.f printR
  rw [pRight_eq k r 100000 1000 (by omega) (by omega) (by omega) hs hx (by omega)]
  simp only [Option.bind_some]
  by_cases h : rightR (toR r) = true
  · have hm := rightR_mem h
    rw [toR_len] at hm
    have hall := List.all_eq_true.2 hm.2
    have hlen := lenR_le r 100000 1000 hs hx
    have hmul2 : r.length * (10 + 1000 * (30 + 100000)) ≤ 1000 * (10 + 1000 * (30 + 100000)) := Nat.mul_le_mul_right _ hl
    have hjl := joinD_len r hall
    rw [h, if_neg (by decide), if_pos rfl, pgo05_eq k (by omega) r [] hs hall (by simp; omega)]
    simp only [Option.bind_some, List.nil_append, span_Print.fin]
    have e1 : ((toR r).map fun l => mk (wordA l)) = ((toR r).map wordA).map mk := by rw [List.map_map]; rfl
    have e2 : (⟨#[32, 124, 124, 32]⟩ : ByteArray) = mk [32, 124, 124, 32] := rfl
    rw [e1, e2, sjoin_eq _ _ (by rw [List.length_map, toR_len]; omega) (by rw [join_D]; omega), join_D]
    rfl
  · rw [Bool.not_eq_true] at h
    rw [h, if_pos rfl, if_neg (by decide)]; rfl
theorem joinC_len (c : UInt8) : ∀ (ls : List (List UInt8)) (n : Nat), (∀ x ∈ ls, x.length ≤ n) → (joinC c ls).length ≤ ls.length * (n + 1)
  | [], n, _ => by simp [joinC]
  | [x], n, h => by have := h x List.mem_cons_self; simp [joinC]; omega
  | x :: y :: t, n, h => by
    have ih := joinC_len c (y :: t) n (fun z hz => h z (List.mem_cons_of_mem _ hz))
    have hx := h x List.mem_cons_self
    rw [joinC_cons c x (by simp), List.length_append, List.length_cons, List.length_cons, Nat.add_mul]; omega
theorem right_sz {v : Ver} (h : rightB v = true) : v.2.2.2.size ≤ 55 := by
  have hp := (right_nums h).2.2.2
  rw [← dl_len]
  unfold preB at hp
  rw [Bool.or_eq_true] at hp
  rcases hp with hp | hp
  · cases hd : dl v.2.2.2 with
    | nil => simp
    | cons => rw [hd] at hp; simp at hp
  · rw [Bool.and_eq_true] at hp
    have h5 := of_decide_eq_true hp.2
    have hl := joinC_len 46 (cuts 46 (dl v.2.2.2)) 10 (fun x hx => by
      have := List.all_eq_true.1 hp.1 x hx
      unfold partB at this
      simp only [Bool.and_eq_true] at this
      exact of_decide_eq_true this.1.1.2)
    rw [cuts_join] at hl
    have : (cuts 46 (dl v.2.2.2)).length * (10 + 1) ≤ 5 * (10 + 1) := Nat.mul_le_mul_right _ h5
    omega
theorem right_small {r : List (List S45)} (h : rightR (toR r) = true) : SzR 55 r ∧ (∀ x ∈ r, x.length ≤ 8) ∧ r.length ≤ 8 ∧ (wordR (toR r)).length ≤ 6000 := by
  have hm := rightR_mem h
  rw [toR_len] at hm
  have hA : ∀ l ∈ r, rightA (toA l) = true := fun l hl => hm.2 (toA l) (List.mem_map_of_mem hl)
  have h1 : SzR 55 r := fun l hl b hb => right_sz ((rightA_mem (hA l hl)).2 (toB b) (List.mem_map_of_mem hb)).2
  have h2 : ∀ x ∈ r, x.length ≤ 8 := fun x hx => by have := (rightA_mem (hA x hx)).1; rwa [toA_len] at this
  refine ⟨h1, h2, hm.1.2, ?_⟩
  have hlen := lenR_le r 55 8 h1 h2
  have hmul : r.length * (10 + 8 * (30 + 55)) ≤ 8 * (10 + 8 * (30 + 55)) := Nat.mul_le_mul_right _ hm.1.2
  have := joinD_len r (List.all_eq_true.2 hm.2)
  unfold wordR
  omega
theorem small_nil : SzR 55 ([] : List (List S45)) ∧ (∀ x ∈ ([] : List (List S45)), x.length ≤ 8) ∧ ([] : List (List S45)).length ≤ 8 := ⟨fun l hl => by simp at hl, fun l hl => by simp at hl, by simp⟩
theorem parse_small (s : List UInt8) : SzR 55 (ofR (parseR s).1) ∧ (∀ x ∈ ofR (parseR s).1, x.length ≤ 8) ∧ (ofR (parseR s).1).length ≤ 8 := by
  cases h : parseR s with
  | mk r t =>
    cases t with
    | true =>
      have := right_small (r := ofR r) (by rw [toR_ofR]; exact parseR_right h)
      exact ⟨this.1, this.2.1, this.2.2.1⟩
    | false =>
      obtain rfl := parseR_none h
      exact small_nil
theorem SzR.up {n m : Nat} {r : List (List S45)} (h : SzR n r) (hm : n ≤ m) : SzR m r := fun l hl b hb => Nat.le_trans (h l hl b hb) hm
def wordT (s : List UInt8) : List UInt8 := if (parseR s).2 = true then (if (printR (parseR s).1).2 = true then (printR (parseR s).1).1 else [110, 111, 110, 101]) else [110, 111, 110, 101]
theorem word_eq (k : Nat) (s : ByteArray) (hs : s.size ≤ 10000) (hk : 500000000 < k) : hoggetlaw05_word.f k s = some (mk (wordT (dl s))) := by
  have h := parse_small (dl s)
  unfold hoggetlaw05_word.f wordT
  rw [pParse05_eq k s hs hk]
  simp only [Option.bind_some]
  rw [pPrint05_eq k _ (h.1.up (by omega)) (fun x hx => by have := h.2.1 x hx; omega) (by omega) (by omega), toR_ofR]
  simp only [Option.bind_some]
  (repeat' split) <;> rfl
def holdsT (s t : List UInt8) : Bool := (parseR s).2 && ((parseP t).2 && holdsR (parseR s).1 (parseP t).1)
theorem holds_eq (k : Nat) (s t : ByteArray) (hs : s.size ≤ 10000) (ht : t.size ≤ 10000) (hk : 500000000 < k) : hoggetlaw05_holds.f k s t = some (holdsT (dl s) (dl t)) := by
  have h := parse_small (dl s)
  have h2 := parse_sz (dl t)
  have h3 := dl_len t
  unfold hoggetlaw05_holds.f holdsT
  rw [pParse05_eq k s hs hk, pParse_eq k t (by omega) (by omega)]
  simp only [Option.bind_some, flat5]
  rw [pHolds05_eq k _ (parseP (dl t)).1 (h.1.up (by omega)) (fun x hx => by have := h.2.1 x hx; omega) (by omega) (by omega) (by omega), toR_ofR]
  simp only [Option.bind_some]
  cases (parseR (dl s)).2 <;> cases (parseP (dl t)).2 <;> simp
theorem w1 : wordT [94, 49, 46, 50, 46, 51] = [62, 61, 49, 46, 50, 46, 51, 32, 60, 50, 46, 48, 46, 48] := by decide +kernel
theorem w2 : wordT [94, 48, 46, 50, 46, 51] = [62, 61, 48, 46, 50, 46, 51, 32, 60, 48, 46, 51, 46, 48] := by decide +kernel
theorem w3 : wordT [94, 48, 46, 48, 46, 51] = [62, 61, 48, 46, 48, 46, 51, 32, 60, 48, 46, 48, 46, 52] := by decide +kernel
theorem w4 : wordT [126, 49, 46, 50, 46, 51] = [62, 61, 49, 46, 50, 46, 51, 32, 60, 49, 46, 51, 46, 48] := by decide +kernel
theorem w5 : wordT [] = [42] := by decide +kernel
theorem w6 : wordT [49, 46, 48, 46, 48, 124, 124, 62, 50, 46, 48, 46, 48, 32, 42] = [61, 49, 46, 48, 46, 48, 32, 124, 124, 32, 62, 50, 46, 48, 46, 48] := by decide +kernel
theorem w7 : wordT [49, 46, 48] = [110, 111, 110, 101] := by decide +kernel
theorem w8 : wordT [94, 57, 57, 57, 57, 57, 57, 46, 48, 46, 48] = [110, 111, 110, 101] := by decide +kernel
theorem v1 : holdsT [94, 49, 46, 50, 46, 51] [49, 46, 50, 46, 52, 45, 97] = false := by decide +kernel
theorem v2 : holdsT [94, 49, 46, 50, 46, 51] [49, 46, 57, 46, 48] = true := by decide +kernel
theorem v3 : holdsT [62, 61, 49, 46, 50, 46, 51, 45, 97] [49, 46, 50, 46, 51, 45, 98] = true := by decide +kernel
theorem spans_eq (k : Nat) (hk : 500000001 < k) : hoggetlaw05_spans.f k = some true := by
  have W : ∀ (k : Nat) (s : ByteArray) (t : List UInt8), s.size ≤ 10000 → wordT (dl s) = t → 500000000 < k → hoggetlaw05_word.f k s = some (mk t) := fun k s t hs h hk => by rw [word_eq k s hs hk, h]
  have V : ∀ (k : Nat) (s u : ByteArray) (t : Bool), s.size ≤ 10000 → u.size ≤ 10000 → holdsT (dl s) (dl u) = t → 500000000 < k → hoggetlaw05_holds.f k s u = some t := fun k s u t hs hu h hk => by rw [holds_eq k s u hs hu hk, h]
  unfold hoggetlaw05_spans.f
  rw [W k ⟨#[94, 49, 46, 50, 46, 51]⟩ _ (by decide) w1 (by omega)]
  simp only [Option.bind_some, mk_toList, if_true]
  rw [W k ⟨#[94, 48, 46, 50, 46, 51]⟩ _ (by decide) w2 (by omega)]
  simp only [Option.bind_some, mk_toList, if_true]
  rw [W k ⟨#[94, 48, 46, 48, 46, 51]⟩ _ (by decide) w3 (by omega)]
  simp only [Option.bind_some, mk_toList, if_true]
  rw [W k ⟨#[126, 49, 46, 50, 46, 51]⟩ _ (by decide) w4 (by omega)]
  simp only [Option.bind_some, mk_toList, if_true]
  rw [W k ⟨#[]⟩ _ (by decide) w5 (by omega)]
  simp only [Option.bind_some, mk_toList, if_true]
  rw [W k ⟨#[49, 46, 48, 46, 48, 124, 124, 62, 50, 46, 48, 46, 48, 32, 42]⟩ _ (by decide) w6 (by omega)]
  simp only [Option.bind_some, mk_toList, beq_self_eq_true]
  obtain ⟨k, rfl, hk'⟩ := pred hk
  simp only [hoggetlaw05_spans.j0, if_true]
  rw [V k ⟨#[94, 49, 46, 50, 46, 51]⟩ ⟨#[49, 46, 50, 46, 52, 45, 97]⟩ _ (by decide) (by decide) v1 (by omega)]
  simp only [Option.bind_some, Bool.false_eq_true, if_false]
  rw [V k ⟨#[94, 49, 46, 50, 46, 51]⟩ ⟨#[49, 46, 57, 46, 48]⟩ _ (by decide) (by decide) v2 (by omega)]
  simp only [Option.bind_some, if_true]
  rw [V k ⟨#[62, 61, 49, 46, 50, 46, 51, 45, 97]⟩ ⟨#[49, 46, 50, 46, 51, 45, 98]⟩ _ (by decide) (by decide) v3 (by omega)]
  simp only [Option.bind_some, if_true]
  rw [W k ⟨#[49, 46, 48]⟩ _ (by decide) w7 (by omega)]
  simp only [Option.bind_some, mk_toList, if_true]
  rw [W k ⟨#[94, 57, 57, 57, 57, 57, 57, 46, 48, 46, 48]⟩ _ (by decide) w8 (by omega)]
  simp
end Go.Proofs.YtijooffpjfhidaaGreatDoor.Vp
end
section
namespace Go.Proofs.YtijooffpjfhidaaGreatDoor.Vp
open Go Go.RowKit Go.Proofs.YtijooffpjfhidaaGreatDoorW.PrintWords Go.Proofs.YtijooffpjfhidaaGreatDoor.Txt Go.Proofs.YtijooffpjfhidaaGreatDoor.Trim Go.Proofs.YtijooffpjfhidaaGreatDoor.Num Go.Proofs.YtijooffpjfhidaaGreatDoor.Seq Go.Proofs.YtijooffpjfhidaaGreatDoor.G
theorem same_self (k : Nat) (r : List (List S45)) (hl : r.length ≤ 1000) (hx : ∀ x ∈ r, x.length ≤ 1000) (hk : 2000000 < k) : hoggetref05_Same.f k r r = some true := by
  have hmul : (1000 + 2) * r.length ≤ (1000 + 2) * 1000 := Nat.mul_le_mul_left _ hl
  rw [rSame_eq k r r 1000 (by omega) (by omega) hx (by omega)]
  simp
theorem SpanHolds (r : List (List S45)) (x y z : Int) (p : ByteArray) : ∃ k, hoggetlaw05_SpanHolds.f k r x y z p = some true := by
  obtain ⟨K, hK⟩ : ∃ K, K = 500000100 := ⟨_, rfl⟩
  refine ⟨K + 1, ?_⟩
  unfold hoggetlaw05_SpanHolds.f hoggetlaw05_large.f hoggetref04_Big.f
  rw [rBig_eq _ _ (by omega)]
  simp only [Option.bind_some]
  cases hb : bigR r with
  | true => rw [if_pos rfl]; rfl
  | false =>
    obtain ⟨hl, hx, hs⟩ := bigR_false hb
    rw [if_neg (by decide)]
    simp only [Option.bind_some]
    by_cases h3 : (p.size : Int) > 300
    · rw [decide_eq_true h3, if_pos rfl]
    · have q1 := pHolds05_eq (K + 1) r (x, y, z, p) (hs.up (by omega)) (fun x h => by have := hx x h; omega) (by omega) (by simp only; omega) (by omega)
      have q2 := rHolds_eq (K + 1) r (x, y, z, p) (hs.up (by omega)) (fun x h => by have := hx x h; omega) (by omega) (by simp only; omega) (by omega)
      simp only at q1 q2
      rw [decide_eq_false h3, if_neg (by decide), rOwn_eq (K + 1) r (by omega) (fun x h => by have := hx x h; omega) (by omega)]
      simp only [Option.bind_some]
      rw [spans_eq (K + 1) (by omega), q1, q2]
      simp only [Option.bind_some, if_true]
      rw [same_self (K + 1) r (by omega) (fun x h => by have := hx x h; omega) (by omega)]
      simp
end Go.Proofs.YtijooffpjfhidaaGreatDoor.Vp
end
section
namespace Go
variable {H : Type} {enc : TypeId × Value → H}
theorem returnsInHanded_and_shaped {a : Assume} {C : Checked} {os : Os} {f : FuncId} {fn : Func} {s : ChangeSpec} {conds : List PathCond} {apart fresh handsOn again : Bool} {X : World → Array Value → Prop}
    (hX : ∀ (w w' : World) (args : Array Value), w.heap = w'.heap → X w args → X w' args)
    (own : ownKnob C.prog.godebug = none) (started : os.Started) (noInit : C.prog.inits.idxOf? f = none) (hfn : C.prog.funcs[f]? = some fn)
    (witness : ∃ (w : World) (tape : Tape) (i : Input), w.os = os ∧ (w.forCall tape i).Shaped C.prog ∧ i.vars = [] ∧ Input.okWide C.prog (w.forCall tape i) .any w.heap.size f i ∧
      ((s.pre enc C.prog fn conds apart (w.forCall tape i).memory i.args ∧ X (w.forCall tape i).memory i.args) ∧ sizedMet enc C.prog fn (OpenSpec.ofChange s) apart (w.forCall tape i).memory i.args) ∧ a.holds C.prog (lone (Frame.enter C.prog f i.args .normal) [] (w.forCall tape i)))
    (contract : ∀ (W : World) (base : Nat) (args : Array Value) (ds gs : List (DataW H)) (before : List MemPlace),
      (∀ (j : Nat) t v, fn.params[j]? = some t → args[j]? = some v → Value.okWide C.prog W .any base t v) →
      DataW.Whole enc C.prog fn.params.toList s.vars apart W args.toList ds gs before →
      conds.all (PathCond.test C.prog ⟨fn.params.toList, ds, s.plain.varTypes C.prog, gs⟩) = true →
      (DataW.weightsEach C.prog (fn.params.toList ++ s.plain.varTypes C.prog) (ds ++ gs)).all (· ≤ reachBytes) = true → X W args → W.ShapedOpen C.prog →
      a.holds C.prog (lone (Frame.enter C.prog f args .normal) [] W) →
      Calls C.prog f args W fun e W' => ∃ v, e = .returned v ∧ s.post enc C.prog fn apart fresh handsOn again W args v W') :
    ReturnsInHanded a C os f .any (fun w args => (s.pre enc C.prog fn conds apart w args ∧ X w args) ∧ sizedMet enc C.prog fn (OpenSpec.ofChange s) apart w args) (s.post enc C.prog fn apart fresh handsOn again) := by
  refine returnsInHanded_of_calls own started noInit witness ?_
  intro w tape i _ hsh _ hok hpre hholds
  obtain ⟨_, _, _, fn', hfn', _, _, _, _, hval⟩ := hok
  have e : fn' = fn := Option.some.inj (hfn'.symm.trans hfn)
  subst e
  obtain ⟨⟨⟨ds, gs, before, hw, hc⟩, hx⟩, hz⟩ := hpre
  have hw' := DataW.Whole.of_heap (w' := w.forCall tape i) (by rfl) hw
  refine (contract (w.forCall tape i) w.heap.size i.args ds gs before hval hw' hc (hz.weights hw) (hX _ _ _ (by rfl) hx) hsh hholds).mono fun e W' ⟨v, he, hp⟩ => ?_
  subst he
  exact ChangeSpec.post_blind hp
end Go
namespace Go.Proofs.YtijooffpjfhidaaGreatDoor
open Go Go.RowKit
theorem pow_tab : (Rows.laid_internal_strconv_uint64pow10 : DataW Unit) = Lib.tabData .u64 Lib.pow10Tab := by kernel_rfl
theorem text_of {s : ByteArray} {l : List UInt8} (h : s.data.toList = l) : s = ⟨⟨l⟩⟩ := by
  subst h
  cases s with | mk d => cases d; rfl
set_option maxRecDepth 100000 in
theorem sign_of {enc : TypeId × Value → Unit} {W : World} {base : Nat} {sp : Nat → Bool} {held : Bool} {fuel : Nat} {cs : List Value} {x : DataW Unit × List MemPlace} {n : Int} {l : List UInt8}
    (h : DataW.trod enc Tryz.prog W base sp held fuel 57 cs = some x) (hx : x.1 = .agg [.lit (.int .i64 n), .lit (.string l)]) : cs = [.int .i64 n, .string ⟨⟨l⟩⟩] := by
  obtain ⟨xs, m, _, rfl, hl, hz, hf⟩ := DataW.trod_struct Tryz.underlying57 h
  rw [show Tryz.prog.cellsOf 57 = 2 by kernel_rfl] at hl
  match cs, hl, xs, hz with
  | [c0, c1], _, [y0, y1], _ =>
    have ci : Tryz.prog.cellsOf 43 = 1 := by kernel_rfl
    have cs : Tryz.prog.cellsOf 9 = 1 := by kernel_rfl
    have k0 : DataW.trod enc Tryz.prog W base sp held m 43 [c0] = some y0 := by simpa [ci] using hf 0 _ rfl
    have k1 : DataW.trod enc Tryz.prog W base sp held m 9 [c1] = some y1 := by simpa [cs] using hf 1 _ rfl
    obtain ⟨n0, e0, rfl, _⟩ := DataW.trod_int Tryz.underlying43 k0
    obtain ⟨s1, e1, rfl, _⟩ := DataW.trod_string Tryz.underlying9 k1
    simp only [List.map_cons, List.map_nil, DataW.agg.injEq, List.cons.injEq, DataW.lit.injEq, Lit.int.injEq, Lit.string.injEq, and_true, true_and] at hx e0 e1
    obtain ⟨rfl, hx⟩ := hx
    rw [e0, e1, text_of hx]
set_option maxRecDepth 100000 in
theorem signs_of {enc : TypeId × Value → Unit} {W : World} {base : Nat} {sp : Nat → Bool} {held : Bool} {fuel : Nat} {cs : List Value} {p : List MemPlace}
    (h : DataW.trod enc Tryz.prog W base sp held fuel 58 cs = some (Rows.laid_hogget_span_signs, p)) :
    cs = [.int .i64 3, .string ⟨#[60, 61]⟩, .int .i64 5, .string ⟨#[62, 61]⟩, .int .i64 2, .string ⟨#[60]⟩, .int .i64 4, .string ⟨#[62]⟩, .int .i64 1, .string ⟨#[61]⟩] := by
  obtain ⟨xs, m, _, hx, hl, hz, hf⟩ := DataW.trod_array Tryz.underlying58 h
  rw [show Tryz.prog.cellsOf 58 = 10 by kernel_rfl] at hl
  have hx1 := (Prod.mk.inj hx).1
  unfold Rows.laid_hogget_span_signs at hx1
  have c2 : Tryz.prog.cellsOf 57 = 2 := by kernel_rfl
  match xs, hz with
  | [y0, y1, y2, y3, y4], _ =>
    simp only [List.map_cons, List.map_nil, DataW.agg.injEq, List.cons.injEq, and_true] at hx1
    obtain ⟨e0, e1, e2, e3, e4⟩ := hx1
    have f0 := sign_of (by simpa [c2] using hf 0 (by omega)) e0.symm
    have f1 := sign_of (by simpa [c2] using hf 1 (by omega)) e1.symm
    have f2 := sign_of (by simpa [c2] using hf 2 (by omega)) e2.symm
    have f3 := sign_of (by simpa [c2] using hf 3 (by omega)) e3.symm
    have f4 := sign_of (by simpa [c2] using hf 4 (by omega)) e4.symm
    match cs, hl with
    | [a0, a1, a2, a3, a4, a5, a6, a7, a8, a9], _ =>
      simp only [List.drop_zero, List.drop_succ_cons, List.take_succ_cons, List.take_zero, List.cons.injEq, and_true] at f0 f1 f2 f3 f4
      obtain ⟨rfl, rfl⟩ := f0
      obtain ⟨rfl, rfl⟩ := f1
      obtain ⟨rfl, rfl⟩ := f2
      obtain ⟨rfl, rfl⟩ := f3
      obtain ⟨rfl, rfl⟩ := f4
      rfl
theorem LD_of {l : List (String × DataW Unit)} {W : World} (h : laidMetH Tryz.prog l W) (hsh : W.ShapedOpen Tryz.prog) (hn : (l.all fun x => x.2.handleName?.isNone) = true)
    (h1 : ("internal/strconv.uint64pow10", Rows.laid_internal_strconv_uint64pow10) ∈ l) (h2 : ("strconv.ErrSyntax", Rows.laid_strconv_ErrSyntax) ∈ l) (h3 : ("strconv.ErrRange", Rows.laid_strconv_ErrRange) ∈ l) (h4 : ("hogget/span.signs", Rows.laid_hogget_span_signs) ∈ l) : LD W := by
  rw [MakeChecks.laidMetH_plain _ _ _ hn] at h
  refine ⟨?_, ?_, ?_, ?_, ?_⟩
  · obtain ⟨g, t, cs, fuel, p, hg, ht, hv, hd⟩ := Lib.laidMet.reads h h1
    obtain rfl := Option.some.inj ((show Tryz.prog.globalNamed "internal/strconv.uint64pow10" = some 4 by kernel_rfl).symm.trans hg)
    obtain rfl := Option.some.inj ((show (Tryz.prog.globals[4]?).map (·.type) = some 137 by kernel_rfl).symm.trans ht)
    rw [pow_tab] at hd
    unfold Lib.TabIs
    rw [hv, ← Lib.cells_of_tab Tryz.underlying137 Tryz.underlying115 (by kernel_rfl) (by kernel_rfl) hd]
  · obtain ⟨g, t, cs, fuel, p, hg, ht, hv, hd⟩ := Lib.laidMet.reads h h2
    obtain rfl := Option.some.inj ((show Tryz.prog.globalNamed "strconv.ErrSyntax" = some 5 by kernel_rfl).symm.trans hg)
    obtain rfl := Option.some.inj ((show (Tryz.prog.globals[5]?).map (·.type) = some 81 by kernel_rfl).symm.trans ht)
    obtain ⟨_, u, v, hcs, _⟩ := iface_of_trod Tryz.underlying81 hd
    exact ⟨u, v, by rw [hv]; exact congrArg some (Array.toList_inj.1 hcs)⟩
  · obtain ⟨g, t, cs, fuel, p, hg, ht, hv, hd⟩ := Lib.laidMet.reads h h3
    obtain rfl := Option.some.inj ((show Tryz.prog.globalNamed "strconv.ErrRange" = some 6 by kernel_rfl).symm.trans hg)
    obtain rfl := Option.some.inj ((show (Tryz.prog.globals[6]?).map (·.type) = some 81 by kernel_rfl).symm.trans ht)
    obtain ⟨_, u, v, hcs, _⟩ := iface_of_trod Tryz.underlying81 hd
    exact ⟨u, v, by rw [hv]; exact congrArg some (Array.toList_inj.1 hcs)⟩
  · exact cell_of_shapedOpen_int (g := 3) (t := 3) hsh (of_decide_eq_true (by kernel_rfl)) (zero := #[.int .i64 0]) (by kernel_rfl) rfl (by kernel_rfl) (by kernel_rfl) Tryz.underlying3
  · obtain ⟨g, t, cs, fuel, p, hg, ht, hv, hd⟩ := Lib.laidMet.reads h h4
    obtain rfl := Option.some.inj ((show Tryz.prog.globalNamed "hogget/span.signs" = some 0 by kernel_rfl).symm.trans hg)
    obtain rfl := Option.some.inj ((show (Tryz.prog.globals[0]?).map (·.type) = some 58 by kernel_rfl).symm.trans ht)
    have hcs := signs_of hd
    exact hv.trans (congrArg some (Array.toList_inj.1 hcs))
end Go.Proofs.YtijooffpjfhidaaGreatDoor
end
section
namespace Go.Proofs.YtijooffpjfhidaaGreatDoor.Row
open Go Go.RowKit Go.ChangeShapes Go.WideShapes Go.ChangeAt
open Go.ChangeMaps (open_string shut_string)
set_option maxRecDepth 100000 in
theorem open_ver {H : Type} {enc : TypeId × Value → H} {W : World} {base b0 : Nat} {sp : Nat → Bool} {held : Bool} {r : Reach} {v : Value} {d : DataW H} {p : List MemPlace}
    (hv : Value.okWide Tryz.prog W r b0 35 v) (h : DataW.Trod enc Tryz.prog W base sp held 35 v d p) :
    ∃ (x y z : Int) (s : ByteArray), v = .agg #[.int .i64 x, .int .i64 y, .int .i64 z, .string s] ∧ p = [] ∧ d = .agg [.lit (.int .i64 x), .lit (.int .i64 y), .lit (.int .i64 z), .lit (.string s.data.toList)] := by
  obtain ⟨v0, v1, v2, v3, y0, y1, y2, y3, n, rfl, rfl, rfl, h0, h1, h2, h3⟩ := Joins.open_agg4 Tryz.underlying35 (by kernel_rfl) (by kernel_rfl) hv h
  obtain ⟨x, e0, rfl, _⟩ := DataW.trod_int Tryz.underlying3 h0
  obtain ⟨y, e1, rfl, _⟩ := DataW.trod_int Tryz.underlying3 h1
  obtain ⟨z, e2, rfl, _⟩ := DataW.trod_int Tryz.underlying3 h2
  obtain ⟨s, e3, rfl, _⟩ := DataW.trod_string Tryz.underlying9 h3
  simp only [List.cons.injEq, and_true] at e0 e1 e2 e3
  subst e0 e1 e2 e3
  exact ⟨x, y, z, s, rfl, rfl, rfl⟩
end Go.Proofs.YtijooffpjfhidaaGreatDoor.Row
end
section
namespace Go.Proofs.YtijooffpjfhidaaGreatDoor.Row
open Go Go.ChangeShapes Go.WideShapes Go.RowKit Go.Proofs.YtijooffpjfhidaaGreatDoorW.PrintWords
def Op {α : Type} (P : Program) (t : TypeId) (d : Kd α) : Prop :=
  P.cellsOf t = d.sz ∧ ∀ {H : Type} {enc : TypeId × Value → H} {W : World} {base : Nat} {sp : Nat → Bool} {held : Bool} {fuel : Nat} {cs : List Value} {x : DataW H × List MemPlace}, DataW.trod enc P W base sp held fuel t cs = some x → ∃ a : α, d.K W a cs
variable {P : Program}
theorem op_slice {α : Type} {t e : TypeId} {d : Kd α} (ht : P.underlying t = some (.slice e)) (hc : P.cellsOf t = 1) (hd : Op P e d) : Op P t (Kd.slice e d) := ⟨hc, fun {H enc W base sp held fuel cs x} h => by
  rcases DataW.trod_slice ht h with ⟨rfl, _⟩ | ⟨a, len, cap, elems, rest, n, _, rfl, rfl, hb, hl, hm, hlen, hel, hsp, hns⟩
  · exact ⟨[], none, 0, rfl, Nat.le_refl _, Kd.C_nil _ _⟩
  · have each : ∀ i, i < len → ∃ (y : α) (c : List Value), d.K W y c ∧ c.length = d.sz ∧ ∀ j u, c[j]? = some u → W.cell? (a.add (i * d.sz + j)) = some u := fun i hi => by
      have h1 := hel i hi
      rw [List.getElem?_eq_getElem (by omega), Option.bind_eq_some_iff] at h1
      obtain ⟨c, hcs, hc2⟩ := h1
      obtain ⟨y, hy⟩ := hd.2 hc2
      have h3 := World.cells?_some hcs
      refine ⟨y, c, hy, by rw [h3.2.1, hd.1], fun j u hu => ?_⟩
      have hj := (List.getElem?_eq_some_iff.1 hu).1
      have := h3.2.2 j (by omega)
      rw [Addr.add_add, hd.1] at this
      rw [this, hu]
    refine ⟨(List.range len).attach.map fun i => (each i.1 (List.mem_range.1 i.2)).choose, some a, cap, ?_, ?_, ?_⟩
    · simp
    · simpa using hl
    · have hml : maxLen = 9223372036854775807 := rfl
      refine ⟨rfl, by simp; omega, fun _ => ⟨a, rfl, fun j p hj => ?_⟩⟩
      rw [List.getElem?_map] at hj
      obtain ⟨i, hi, rfl⟩ := Option.map_eq_some_iff.1 hj
      have hij : i.1 = j := by
        have h1 := (List.getElem?_eq_some_iff.1 hi)
        obtain ⟨hlt, h2⟩ := h1
        rw [← h2]
        simp
      obtain ⟨c, h1, h2, h3⟩ := (each i.1 (List.mem_range.1 i.2)).choose_spec
      exact ⟨c, h2, h1, by rw [← hij]; exact h3⟩⟩
theorem op_fields {H : Type} {enc : TypeId × Value → H} {W : World} {base : Nat} {sp : Nat → Bool} {held : Bool} {fuel : Nat} {t : TypeId} {fs : Array Field} {cs : List Value} {x : DataW H × List MemPlace} (ht : P.underlying t = some (.struct fs)) (h : DataW.trod enc P W base sp held fuel t cs = some x) :
    cs.length = P.cellsOf t ∧ ∃ m, ∀ (i : Nat) (f : Field), fs[i]? = some f → ∃ y, DataW.trod enc P W base sp held m f.type ((cs.drop f.offset).take (P.cellsOf f.type)) = some y := by
  obtain ⟨xs, n, _, _, hl, hx, hf⟩ := DataW.trod_struct ht h
  refine ⟨hl, n, fun i f hi => ?_⟩
  have h1 := (Array.getElem?_eq_some_iff.1 hi).1
  exact ⟨_, (hf i f hi).trans (List.getElem?_eq_getElem (by omega))⟩
end Go.Proofs.YtijooffpjfhidaaGreatDoor.Row
end
section
namespace Go.Proofs.YtijooffpjfhidaaGreatDoor.Row
open Go Go.ChangeShapes Go.WideShapes Go.RowKit Go.Proofs.YtijooffpjfhidaaGreatDoorW.PrintWords Go.Proofs.YtijooffpjfhidaaGreatDoor.G
set_option maxRecDepth 100000 in
theorem op_ver : Op Tryz.prog 35 k35 := ⟨by kernel_rfl, fun {H enc W base sp held fuel cs x} h => by
  obtain ⟨hl, m, hf⟩ := op_fields Tryz.underlying35 h
  rw [show Tryz.prog.cellsOf 35 = 4 by kernel_rfl] at hl
  match cs, hl with
  | [c0, c1, c2, c3], _ =>
    obtain ⟨y0, h0⟩ := hf 0 _ rfl
    obtain ⟨y1, h1⟩ := hf 1 _ rfl
    obtain ⟨y2, h2⟩ := hf 2 _ rfl
    obtain ⟨y3, h3⟩ := hf 3 _ rfl
    have ci : Tryz.prog.cellsOf 3 = 1 := by kernel_rfl
    have cs : Tryz.prog.cellsOf 9 = 1 := by kernel_rfl
    have k0 : DataW.trod enc Tryz.prog W base sp held m 3 [c0] = some y0 := by simpa [ci] using h0
    have k1 : DataW.trod enc Tryz.prog W base sp held m 3 [c1] = some y1 := by simpa [ci] using h1
    have k2 : DataW.trod enc Tryz.prog W base sp held m 3 [c2] = some y2 := by simpa [ci] using h2
    have k3 : DataW.trod enc Tryz.prog W base sp held m 9 [c3] = some y3 := by simpa [cs] using h3
    obtain ⟨n0, e0, _⟩ := DataW.trod_int Tryz.underlying3 k0
    obtain ⟨n1, e1, _⟩ := DataW.trod_int Tryz.underlying3 k1
    obtain ⟨n2, e2, _⟩ := DataW.trod_int Tryz.underlying3 k2
    obtain ⟨n3, e3, _⟩ := DataW.trod_string Tryz.underlying9 k3
    simp only [List.cons.injEq, and_true] at e0 e1 e2 e3
    subst e0 e1 e2 e3
    exact ⟨⟨n0, n1, n2, n3⟩, k35_mk _ _⟩⟩
set_option maxRecDepth 100000 in
theorem op_bound : Op Tryz.prog 45 k45 := ⟨by kernel_rfl, fun {H enc W base sp held fuel cs x} h => by
  obtain ⟨hl, m, hf⟩ := op_fields Tryz.underlying45 h
  rw [show Tryz.prog.cellsOf 45 = 5 by kernel_rfl] at hl
  match cs, hl with
  | [c0, c1, c2, c3, c4], _ =>
    obtain ⟨y0, h0⟩ := hf 0 _ rfl
    obtain ⟨y1, h1⟩ := hf 1 _ rfl
    have ci : Tryz.prog.cellsOf 43 = 1 := by kernel_rfl
    have cs : Tryz.prog.cellsOf 35 = 4 := by kernel_rfl
    have k0 : DataW.trod enc Tryz.prog W base sp held m 43 [c0] = some y0 := by simpa [ci] using h0
    have k1 : DataW.trod enc Tryz.prog W base sp held m 35 [c1, c2, c3, c4] = some y1 := by simpa [cs] using h1
    obtain ⟨n0, e0, _⟩ := DataW.trod_int Tryz.underlying43 k0
    obtain ⟨v, hv⟩ := op_ver.2 k1
    simp only [List.cons.injEq, and_true] at e0
    subst e0
    exact ⟨⟨n0, v⟩, [_], _, rfl, rfl, hv⟩⟩
theorem array1 {α : Type} {cs : Array α} (h : cs.size = 1) : ∃ c0, cs = #[c0] := by
  obtain ⟨l⟩ := cs
  match l, h with
  | [c0], _ => exact ⟨c0, rfl⟩
set_option maxRecDepth 100000 in
theorem op_ran : Op Tryz.prog 22 (Kd.slice 38 (Kd.slice 45 k45)) := op_slice Tryz.underlying22 (by kernel_rfl) (op_slice Tryz.underlying38 (by kernel_rfl) op_bound)
set_option maxRecDepth 100000 in
theorem open_ran {H : Type} {enc : TypeId × Value → H} {W : World} {base b0 : Nat} {sp : Nat → Bool} {held : Bool} {r : Reach} {v : Value} {d : DataW H} {p : List MemPlace}
    (hv : Value.okWide Tryz.prog W r b0 24 v) (h : DataW.Trod enc Tryz.prog W base sp held 24 v d p) :
    ∃ (A : Option Addr) (c : Nat) (l : List (List S45)), v = .agg #[.slice A l.length c] ∧ l.length ≤ c ∧ Kd.C (Kd.slice 45 k45) W A l.length l := by
  obtain ⟨cs, rfl, hsz⟩ := okWide_struct Tryz.underlying24 hv
  obtain ⟨c0, rfl⟩ := array1 (hsz.trans (by kernel_rfl))
  obtain ⟨fuel, hf⟩ := h
  obtain ⟨_, m, hf⟩ := op_fields Tryz.underlying24 hf
  obtain ⟨y0, h0⟩ := hf 0 _ rfl
  have ci : Tryz.prog.cellsOf 22 = 1 := by kernel_rfl
  have h0' : DataW.trod enc Tryz.prog W base sp held m 22 [c0] = some y0 := by simpa [Value.cells, ci] using h0
  obtain ⟨l, A, c, e, hl, hC⟩ := op_ran.2 h0'
  simp only [List.cons.injEq, and_true] at e
  subst e
  exact ⟨A, c, l, rfl, hl, hC⟩
end Go.Proofs.YtijooffpjfhidaaGreatDoor.Row
end
