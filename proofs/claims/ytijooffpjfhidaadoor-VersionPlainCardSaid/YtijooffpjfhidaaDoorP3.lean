/- Texts that the claims' laws stand on, put together by a program of this session (wip/prune.py): printed functions, their walks, and plain lemmas. -/
import Derived.Lib.ItoaNum
import Derived.Lib.IndexLaws
import Derived.Test.YtijooffpjfhidaaDoorRows
import Derived.Lib.LaidU8
import Derived.MakeChecks
import Derived.LaidMore
import Derived.Lib.SmallJoins
import Derived.WalkKit
import Derived.ProofKit
import Derived.OpenShut
import Derived.ShutString
import Derived.ChangeOld
import Derived.SizedLaws
import Derived.Test.YtijooffpjfhidaaDoorP2
section
namespace Go.Proofs.YtijooffpjfhidaaDoor.G
open Go.RowKit Go.Proofs.YtijooffpjfhidaaDoorW.PrintWords Go.Proofs.YtijooffpjfhidaaDoorW.PrintLast Go.Proofs.YtijooffpjfhidaaDoorW.PrintMore
attribute [local go_sem] Go.Proofs.YtijooffpjfhidaaDoor.Aid.gtr_string max2_int min2_int max_two min_two max_three min_three max_four min_four
set_option linter.unusedVariables false
set_option linter.unusedSimpArgs false
attribute [local go_sem high] eqA23
def hoggetlaw04_versions.j0 : Nat → Bool → Option (Bool)
  | 0, _ => none
  | k + 1, x5 => if x5 = true then ((hoggetlaw04_order.f k (⟨#[49, 46, 48, 46, 48, 45, 50]⟩ : ByteArray) (⟨#[49, 46, 48, 46, 48, 45, 97]⟩ : ByteArray)).bind fun t232 => (if t232 = (-1) then ((hoggetlaw04_order.f k (⟨#[49, 46, 48, 46, 48, 45, 97]⟩ : ByteArray) (⟨#[49, 46, 48, 46, 48, 45, 97, 46, 48]⟩ : ByteArray)).bind fun t233 => (if t233 = (-1) then ((hoggetlaw04_order.f k (⟨#[48, 49, 46, 48, 46, 48]⟩ : ByteArray) (⟨#[49, 46, 48, 46, 48]⟩ : ByteArray)).bind fun t234 => (if t234 = 7 then ((hoggetlaw04_order.f k (⟨#[49, 46, 48]⟩ : ByteArray) (⟨#[49, 46, 48, 46, 48]⟩ : ByteArray)).bind fun t235 => (if t235 = 7 then ((hoggetlaw04_order.f k (⟨#[49, 46, 48, 46, 48, 45, 48, 49]⟩ : ByteArray) (⟨#[49, 46, 48, 46, 48]⟩ : ByteArray)).bind fun t236 => (if t236 = 7 then ((hoggetlaw04_order.f k (⟨#[49, 46, 48, 46, 48, 45]⟩ : ByteArray) (⟨#[49, 46, 48, 46, 48]⟩ : ByteArray)).bind fun t237 => (if t237 = 7 then ((hoggetlaw04_order.f k (⟨#[49, 46, 48, 46, 48]⟩ : ByteArray) (⟨#[49, 46, 48, 46, 48]⟩ : ByteArray)).bind fun t238 => (some (t238 == 0))) else (some false))) else (some false))) else (some false))) else (some false))) else (some false))) else (some false))) else (some false)
def hoggetlaw04_versions.f (k : Nat)  : Option (Bool) := (version_Parse.f k (⟨#[49, 46, 50, 46, 51, 45, 97, 46, 49]⟩ : ByteArray)).bind fun bt221 => ((version_Print.f k bt221.1 bt221.2.1 bt221.2.2.1 bt221.2.2.2.1).bind fun bt227 => (if bt221.2.2.2.2 = true then (if (bt221.1 == 1 && (bt221.2.1 == 2 && (bt221.2.2.1 == 3 && (bt221.2.2.2.1.toList == ([97, 46, 49] : List UInt8))))) = true then (if bt227.2 = true then (if bt227.1.toList = ([49, 46, 50, 46, 51, 45, 97, 46, 49] : List UInt8) then ((hoggetlaw04_order.f k (⟨#[49, 46, 50, 46, 51, 45, 97, 46, 49]⟩ : ByteArray) (⟨#[49, 46, 50, 46, 51]⟩ : ByteArray)).bind fun t229 => (if t229 = (-1) then ((hoggetlaw04_order.f k (⟨#[49, 46, 49, 48, 46, 48]⟩ : ByteArray) (⟨#[49, 46, 57, 46, 48]⟩ : ByteArray)).bind fun t230 => (if t230 = 1 then ((hoggetlaw04_order.f k (⟨#[49, 46, 48, 46, 48, 45, 50]⟩ : ByteArray) (⟨#[49, 46, 48, 46, 48, 45, 49, 48]⟩ : ByteArray)).bind fun t231 => (hoggetlaw04_versions.j0 k (t231 == (-1)))) else (hoggetlaw04_versions.j0 k false))) else (hoggetlaw04_versions.j0 k false))) else (hoggetlaw04_versions.j0 k false)) else (hoggetlaw04_versions.j0 k false)) else (hoggetlaw04_versions.j0 k false)) else (hoggetlaw04_versions.j0 k false)))
set_option maxHeartbeats 8000000 in
set_option maxRecDepth 100000 in
theorem hoggetlaw04_versions.calls (k : Nat)  (r : Bool) (w : World) (h : hoggetlaw04_versions.f k  = some r) (hLD : LD w) :
    Calls Tryd.prog 14 #[] w fun e w' => e = .returned (.bool r) ∧ Below w.heap.size w w' := by
  have hu23 := Tryd.underlying23
  have HB := Aside0.mk (Below.refl w.heap.size w)
  have H : ((version_Parse.f k (⟨#[49, 46, 50, 46, 51, 45, 97, 46, 49]⟩ : ByteArray)).bind fun bt221 => ((version_Print.f k bt221.1 bt221.2.1 bt221.2.2.1 bt221.2.2.2.1).bind fun bt227 => (if bt221.2.2.2.2 = true then (if (bt221.1 == 1 && (bt221.2.1 == 2 && (bt221.2.2.1 == 3 && (bt221.2.2.2.1.toList == ([97, 46, 49] : List UInt8))))) = true then (if bt227.2 = true then (if bt227.1.toList = ([49, 46, 50, 46, 51, 45, 97, 46, 49] : List UInt8) then ((hoggetlaw04_order.f k (⟨#[49, 46, 50, 46, 51, 45, 97, 46, 49]⟩ : ByteArray) (⟨#[49, 46, 50, 46, 51]⟩ : ByteArray)).bind fun t229 => (if t229 = (-1) then ((hoggetlaw04_order.f k (⟨#[49, 46, 49, 48, 46, 48]⟩ : ByteArray) (⟨#[49, 46, 57, 46, 48]⟩ : ByteArray)).bind fun t230 => (if t230 = 1 then ((hoggetlaw04_order.f k (⟨#[49, 46, 48, 46, 48, 45, 50]⟩ : ByteArray) (⟨#[49, 46, 48, 46, 48, 45, 49, 48]⟩ : ByteArray)).bind fun t231 => (hoggetlaw04_versions.j0 k (t231 == (-1)))) else (hoggetlaw04_versions.j0 k false))) else (hoggetlaw04_versions.j0 k false))) else (hoggetlaw04_versions.j0 k false)) else (hoggetlaw04_versions.j0 k false)) else (hoggetlaw04_versions.j0 k false)) else (hoggetlaw04_versions.j0 k false)))) = some r := h
  clear h
  replace H := Option.bind_eq_some_iff.mp H
  obtain ⟨⟨t221, t222, t223, t224, t225⟩, A10, H⟩ := H
  replace H : ((version_Print.f k t221 t222 t223 t224).bind fun bt227 => (if t225 = true then (if (t221 == 1 && (t222 == 2 && (t223 == 3 && (t224.toList == ([97, 46, 49] : List UInt8))))) = true then (if bt227.2 = true then (if bt227.1.toList = ([49, 46, 50, 46, 51, 45, 97, 46, 49] : List UInt8) then ((hoggetlaw04_order.f k (⟨#[49, 46, 50, 46, 51, 45, 97, 46, 49]⟩ : ByteArray) (⟨#[49, 46, 50, 46, 51]⟩ : ByteArray)).bind fun t229 => (if t229 = (-1) then ((hoggetlaw04_order.f k (⟨#[49, 46, 49, 48, 46, 48]⟩ : ByteArray) (⟨#[49, 46, 57, 46, 48]⟩ : ByteArray)).bind fun t230 => (if t230 = 1 then ((hoggetlaw04_order.f k (⟨#[49, 46, 48, 46, 48, 45, 50]⟩ : ByteArray) (⟨#[49, 46, 48, 46, 48, 45, 49, 48]⟩ : ByteArray)).bind fun t231 => (hoggetlaw04_versions.j0 k (t231 == (-1)))) else (hoggetlaw04_versions.j0 k false))) else (hoggetlaw04_versions.j0 k false))) else (hoggetlaw04_versions.j0 k false)) else (hoggetlaw04_versions.j0 k false)) else (hoggetlaw04_versions.j0 k false)) else (hoggetlaw04_versions.j0 k false))) = some r := H
  have A1 := Aside0.mk A10
  clear A10
  replace H := Option.bind_eq_some_iff.mp H
  obtain ⟨⟨t227, t228⟩, A20, H⟩ := H
  replace H : (if t225 = true then (if (t221 == 1 && (t222 == 2 && (t223 == 3 && (t224.toList == ([97, 46, 49] : List UInt8))))) = true then (if t228 = true then (if t227.toList = ([49, 46, 50, 46, 51, 45, 97, 46, 49] : List UInt8) then ((hoggetlaw04_order.f k (⟨#[49, 46, 50, 46, 51, 45, 97, 46, 49]⟩ : ByteArray) (⟨#[49, 46, 50, 46, 51]⟩ : ByteArray)).bind fun t229 => (if t229 = (-1) then ((hoggetlaw04_order.f k (⟨#[49, 46, 49, 48, 46, 48]⟩ : ByteArray) (⟨#[49, 46, 57, 46, 48]⟩ : ByteArray)).bind fun t230 => (if t230 = 1 then ((hoggetlaw04_order.f k (⟨#[49, 46, 48, 46, 48, 45, 50]⟩ : ByteArray) (⟨#[49, 46, 48, 46, 48, 45, 49, 48]⟩ : ByteArray)).bind fun t231 => (hoggetlaw04_versions.j0 k (t231 == (-1)))) else (hoggetlaw04_versions.j0 k false))) else (hoggetlaw04_versions.j0 k false))) else (hoggetlaw04_versions.j0 k false)) else (hoggetlaw04_versions.j0 k false)) else (hoggetlaw04_versions.j0 k false)) else (hoggetlaw04_versions.j0 k false)) = some r := H
  have A2 := Aside0.mk A20
  clear A20
  have HC3 := Aside0.mk H
  clear H
  go_enter Tryd.func14, Tryd.ntmps14
  go_upto_region 3 with (first | ((with_reducible refine gate_callee (f := 10) rfl ?_); refine goesL_ (some 7) rfl rfl Tryd.func10 (by kernel_rfl) rfl #[.string (⟨#[49, 46, 50, 46, 51, 45, 97, 46, 49]⟩ : ByteArray)] rfl (by (try simp only [List.map_toArray, List.map_cons, List.map_nil]); first | done | rfl | (simp only [List.length_drop, List.length_take]; rfl)) ?_; (with_reducible refine (version_Parse.calls k (⟨#[49, 46, 50, 46, 51, 45, 97, 46, 49]⟩ : ByteArray) t221 t222 t223 t224 t225 _ A1.out (by first | exact hLD | exact LD.below hLD (by repeat (first | exact HB.out | exact Below.refl _ _ | exact Aside0.out (by assumption) | apply below_alloc | apply pw_below_drewN | apply below_drew1 | refine below_set ?_ ?_)))).mono ?_); rintro e w4 ⟨rfl, hb⟩; refine ⟨_, rfl, ?_⟩; have n0_ := Aside0.mk (below_step (by repeat (first | (with_reducible first | exact HB.out | apply below_alloc | apply pw_below_drewN | apply below_drew1) | exact HB.out)) hb); clear HB; have HB := n0_; clear n0_; (try clear hb); (try clear hb2); (try clear hk); (try clear hi)) | ((with_reducible refine gate_dst (N := 1) rfl ?_); refine box_event ?hg (N := 1) ?hd (cs := #[.int .i64 0, .int .i64 0, .int .i64 0, .string (⟨#[]⟩ : ByteArray)]) (t := 23) ?hr ?_; (case hd => rfl); (case hg => rfl); (case hr => first | (go_simp; done) | (go_simp; rfl)); intro gb226 hg w5 hbox hb; have n0_ := Aside0.mk (below_step (by repeat (first | (with_reducible first | exact HB.out | apply below_alloc | apply pw_below_drewN | apply below_drew1) | exact HB.out)) hb); have n1_ := Aside0.mk (hbox); have n2_ := Aside0.mk ((by rw [hg]; exact (below_size (by repeat (first | (with_reducible first | exact HB.out | apply below_alloc | apply pw_below_drewN | apply below_drew1) | exact HB.out))) : w.heap.size ≤ gb226)); have n3_ := Aside0.mk ((by rw [hg]; exact (below_size (by repeat (first | (with_reducible first | exact HB.out | apply below_alloc | apply pw_below_drewN | apply below_drew1) | exact HB.out))) : w.heap.size ≤ gb226)); clear HB; have HB := n0_; have BK226 := n1_; have GW226 := n2_; have GE226 := n3_; clear n0_ n1_ n2_ n3_; clear hb hbox hg; have hcz6_0 : w5.cell? ⟨gb226, 0, none⟩ = some (.int .i64 0) := (blk_cell BK226.out 0).trans rfl; have hcz6_1 : w5.cell? ⟨gb226, 1, none⟩ = some (.int .i64 0) := (blk_cell BK226.out 1).trans rfl; have hcz6_2 : w5.cell? ⟨gb226, 2, none⟩ = some (.int .i64 0) := (blk_cell BK226.out 2).trans rfl; have hcz6_3 : w5.cell? ⟨gb226, 3, none⟩ = some (.string (⟨#[]⟩ : ByteArray)) := (blk_cell BK226.out 3).trans rfl; have hfz6_0 := blk_frozen BK226.out 0; have hfz6_1 := blk_frozen BK226.out 1; have hfz6_2 := blk_frozen BK226.out 2; have hfz6_3 := blk_frozen BK226.out 3) | ((with_reducible refine gate_callee (f := 12) rfl ?_); refine goesL_ (some 12) rfl rfl Tryd.func12 (by kernel_rfl) rfl #[.agg #[.int .i64 t221, .int .i64 t222, .int .i64 t223, .string t224]] rfl (by (try simp only [List.map_toArray, List.map_cons, List.map_nil]); first | done | rfl | (simp only [List.length_drop, List.length_take]; rfl)) ?_; (with_reducible refine (version_Print.calls k t221 t222 t223 t224 t227 t228 _ A2.out (by first | exact hLD | exact LD.below hLD (by repeat (first | exact HB.out | exact Below.refl _ _ | exact Aside0.out (by assumption) | apply below_alloc | apply pw_below_drewN | apply below_drew1 | refine below_set ?_ ?_)))).mono ?_); rintro e w7 ⟨rfl, hb⟩; refine ⟨_, rfl, ?_⟩; have n0_ := Aside0.mk (blk_below (g := gb226) (o := .cells #[.int .i64 t221, .int .i64 t222, .int .i64 t223, .string t224] 23 (0, 0)) (by (with_reducible repeat (first | refine blk_drewN ?_ _ | refine blk_drew ?_ | refine blk_alloc ?_ _)); refine blk_put (cs := #[.int .i64 t221, .int .i64 t222, .int .i64 t223, .string (⟨#[]⟩ : ByteArray)]) ?_ 3 _ rfl; (with_reducible repeat (first | refine blk_drewN ?_ _ | refine blk_drew ?_ | refine blk_alloc ?_ _)); refine blk_put (cs := #[.int .i64 t221, .int .i64 t222, .int .i64 0, .string (⟨#[]⟩ : ByteArray)]) ?_ 2 _ rfl; (with_reducible repeat (first | refine blk_drewN ?_ _ | refine blk_drew ?_ | refine blk_alloc ?_ _)); refine blk_put (cs := #[.int .i64 t221, .int .i64 0, .int .i64 0, .string (⟨#[]⟩ : ByteArray)]) ?_ 1 _ rfl; (with_reducible repeat (first | refine blk_drewN ?_ _ | refine blk_drew ?_ | refine blk_alloc ?_ _)); refine blk_put (cs := #[.int .i64 0, .int .i64 0, .int .i64 0, .string (⟨#[]⟩ : ByteArray)]) ?_ 0 _ rfl; (with_reducible repeat (first | refine blk_drewN ?_ _ | refine blk_drew ?_ | refine blk_alloc ?_ _)); exact BK226.out) hb); have n1_ := Aside0.mk (below_step (by repeat (first | (with_reducible first | exact HB.out | apply below_alloc | apply pw_below_drewN | apply below_drew1 | refine below_set ?_ GE226.out) | exact HB.out)) hb); clear BK226; clear HB; have BK226 := n0_; have HB := n1_; clear n0_ n1_; (try clear hb); (try clear hb2); (try clear hk); (try clear hi)))
  (try simp only [Act.put, List.setIfInBounds_toArray, List.set_cons_zero, List.set_cons_succ])
  go_cut [5] (fun v5 wc => ∃ (kq : Nat) (x5_2 : Bool), v5 = .bool x5_2 ∧ Aside0 (hoggetlaw04_versions.j0 kq x5_2 = some r) ∧ Aside0 (kq ≤ k) ∧ Aside0 (wc.heap[gb226]? = some (.cells #[.int .i64 t221, .int .i64 t222, .int .i64 t223, .string t224] 23 (0, 0))) ∧ Aside0 (Below w.heap.size w wc))
  case first =>
    have H := HC3.out
    clear HC3
    by_cases c8 : t225 = true
    · subst c8
      have H1 : (if (t221 == 1 && (t222 == 2 && (t223 == 3 && (t224.toList == ([97, 46, 49] : List UInt8))))) = true then (if t228 = true then (if t227.toList = ([49, 46, 50, 46, 51, 45, 97, 46, 49] : List UInt8) then ((hoggetlaw04_order.f k (⟨#[49, 46, 50, 46, 51, 45, 97, 46, 49]⟩ : ByteArray) (⟨#[49, 46, 50, 46, 51]⟩ : ByteArray)).bind fun t229 => (if t229 = (-1) then ((hoggetlaw04_order.f k (⟨#[49, 46, 49, 48, 46, 48]⟩ : ByteArray) (⟨#[49, 46, 57, 46, 48]⟩ : ByteArray)).bind fun t230 => (if t230 = 1 then ((hoggetlaw04_order.f k (⟨#[49, 46, 48, 46, 48, 45, 50]⟩ : ByteArray) (⟨#[49, 46, 48, 46, 48, 45, 49, 48]⟩ : ByteArray)).bind fun t231 => (hoggetlaw04_versions.j0 k (t231 == (-1)))) else (hoggetlaw04_versions.j0 k false))) else (hoggetlaw04_versions.j0 k false))) else (hoggetlaw04_versions.j0 k false)) else (hoggetlaw04_versions.j0 k false)) else (hoggetlaw04_versions.j0 k false)) = some r := by rw [if_pos rfl] at H; exact H
      clear H
      have H := H1
      clear H1
      by_cases c9 : (t221 == 1 && (t222 == 2 && (t223 == 3 && (t224.toList == ([97, 46, 49] : List UInt8))))) = true
      · rw [if_pos c9] at H
        have c9b0 : (t221 == 1 && (t222 == 2 && (t223 == 3 && (t224.toList == ([97, 46, 49] : List UInt8))))) = true := c9
        (try (have c9b1 : decide (t221 = 1 && (t222 == 2 && (t223 == 3 && (t224.toList == ([97, 46, 49] : List UInt8))))) = true := by simpa using c9))
        (try (have c9b2 : (t221 == 1 && (t222 == 2 && (t223 == 3 && (t224.toList == ([97, 46, 49] : List UInt8))))) = true := by simpa using c9))
        clear c9
        (first | rw [c9b0] | (simp only [i64_w, i32_w]; rw [c9b0]) | skip)
        by_cases c10 : t228 = true
        · subst c10
          have H1 : (if t227.toList = ([49, 46, 50, 46, 51, 45, 97, 46, 49] : List UInt8) then ((hoggetlaw04_order.f k (⟨#[49, 46, 50, 46, 51, 45, 97, 46, 49]⟩ : ByteArray) (⟨#[49, 46, 50, 46, 51]⟩ : ByteArray)).bind fun t229 => (if t229 = (-1) then ((hoggetlaw04_order.f k (⟨#[49, 46, 49, 48, 46, 48]⟩ : ByteArray) (⟨#[49, 46, 57, 46, 48]⟩ : ByteArray)).bind fun t230 => (if t230 = 1 then ((hoggetlaw04_order.f k (⟨#[49, 46, 48, 46, 48, 45, 50]⟩ : ByteArray) (⟨#[49, 46, 48, 46, 48, 45, 49, 48]⟩ : ByteArray)).bind fun t231 => (hoggetlaw04_versions.j0 k (t231 == (-1)))) else (hoggetlaw04_versions.j0 k false))) else (hoggetlaw04_versions.j0 k false))) else (hoggetlaw04_versions.j0 k false)) = some r := by rw [if_pos rfl] at H; exact H
          clear H
          have H := H1
          clear H1
          by_cases c11 : t227.toList = ([49, 46, 50, 46, 51, 45, 97, 46, 49] : List UInt8)
          · rw [if_pos c11] at H
            have c11b0 : (t227.toList == ([49, 46, 50, 46, 51, 45, 97, 46, 49] : List UInt8)) = true := beq_iff_eq.mpr c11
            have c11b1 : (t227.toList != ([49, 46, 50, 46, 51, 45, 97, 46, 49] : List UInt8)) = false := bne_eq_false_iff_eq.mpr c11
            clear c11
            replace H := Option.bind_eq_some_iff.mp H
            obtain ⟨t229, A120, H⟩ := H
            replace H : (if t229 = (-1) then ((hoggetlaw04_order.f k (⟨#[49, 46, 49, 48, 46, 48]⟩ : ByteArray) (⟨#[49, 46, 57, 46, 48]⟩ : ByteArray)).bind fun t230 => (if t230 = 1 then ((hoggetlaw04_order.f k (⟨#[49, 46, 48, 46, 48, 45, 50]⟩ : ByteArray) (⟨#[49, 46, 48, 46, 48, 45, 49, 48]⟩ : ByteArray)).bind fun t231 => (hoggetlaw04_versions.j0 k (t231 == (-1)))) else (hoggetlaw04_versions.j0 k false))) else (hoggetlaw04_versions.j0 k false)) = some r := H
            have A12 := Aside0.mk A120
            clear A120
            by_cases c13 : t229 = (-1)
            · rw [if_pos c13] at H
              have c13b0 : (t229 == (-1)) = true := beq_iff_eq.mpr c13
              have c13b1 : (t229 != (-1)) = false := bne_eq_false_iff_eq.mpr c13
              clear c13
              replace H := Option.bind_eq_some_iff.mp H
              obtain ⟨t230, A140, H⟩ := H
              replace H : (if t230 = 1 then ((hoggetlaw04_order.f k (⟨#[49, 46, 48, 46, 48, 45, 50]⟩ : ByteArray) (⟨#[49, 46, 48, 46, 48, 45, 49, 48]⟩ : ByteArray)).bind fun t231 => (hoggetlaw04_versions.j0 k (t231 == (-1)))) else (hoggetlaw04_versions.j0 k false)) = some r := H
              have A14 := Aside0.mk A140
              clear A140
              by_cases c15 : t230 = 1
              · rw [if_pos c15] at H
                have c15b0 : (t230 == 1) = true := beq_iff_eq.mpr c15
                have c15b1 : (t230 != 1) = false := bne_eq_false_iff_eq.mpr c15
                clear c15
                replace H := Option.bind_eq_some_iff.mp H
                obtain ⟨t231, A160, H⟩ := H
                replace H : (hoggetlaw04_versions.j0 k (t231 == (-1))) = some r := H
                have A16 := Aside0.mk A160
                clear A160
                have H' := Aside0.mk H
                clear H
                have hcz17_0 : w7.cell? ⟨gb226, 0, none⟩ = some (.int .i64 t221) := (blk_cell BK226.out 0).trans rfl
                have hcz17_1 : w7.cell? ⟨gb226, 1, none⟩ = some (.int .i64 t222) := (blk_cell BK226.out 1).trans rfl
                have hcz17_2 : w7.cell? ⟨gb226, 2, none⟩ = some (.int .i64 t223) := (blk_cell BK226.out 2).trans rfl
                have hcz17_3 : w7.cell? ⟨gb226, 3, none⟩ = some (.string t224) := (blk_cell BK226.out 3).trans rfl
                have hfz17_0 := blk_frozen BK226.out 0
                have hfz17_1 := blk_frozen BK226.out 1
                have hfz17_2 := blk_frozen BK226.out 2
                have hfz17_3 := blk_frozen BK226.out 3
                go_wp2_with (first | (go_at_call 27; (with_reducible refine (hoggetlaw04_order.calls k (⟨#[49, 46, 50, 46, 51, 45, 97, 46, 49]⟩ : ByteArray) (⟨#[49, 46, 50, 46, 51]⟩ : ByteArray) t229 _ A12.out (by first | exact hLD | exact LD.below hLD (by repeat (first | exact HB.out | exact Below.refl _ _ | exact Aside0.out (by assumption) | apply below_alloc | apply pw_below_drewN | apply below_drew1 | refine below_set ?_ ?_)))).mono ?_); rintro e w18 ⟨rfl, hb⟩; have n0_ := Aside0.mk (blk_below (g := gb226) (o := .cells #[.int .i64 t221, .int .i64 t222, .int .i64 t223, .string t224] 23 (0, 0)) (by (with_reducible repeat (first | refine blk_drewN ?_ _ | refine blk_drew ?_ | refine blk_alloc ?_ _)); exact BK226.out) hb); have n1_ := Aside0.mk (below_step (by repeat (first | (with_reducible first | exact HB.out | apply below_alloc | apply pw_below_drewN | apply below_drew1 | refine below_set ?_ GE226.out) | exact HB.out)) hb); clear BK226; clear HB; have BK226 := n0_; have HB := n1_; clear n0_ n1_; (try clear hb); (try clear hb2); (try clear hk); (try clear hi)) | (go_at_call 27; (with_reducible refine (hoggetlaw04_order.calls k (⟨#[49, 46, 49, 48, 46, 48]⟩ : ByteArray) (⟨#[49, 46, 57, 46, 48]⟩ : ByteArray) t230 _ A14.out (by first | exact hLD | exact LD.below hLD (by repeat (first | exact HB.out | exact Below.refl _ _ | exact Aside0.out (by assumption) | apply below_alloc | apply pw_below_drewN | apply below_drew1 | refine below_set ?_ ?_)))).mono ?_); rintro e w19 ⟨rfl, hb⟩; have n0_ := Aside0.mk (blk_below (g := gb226) (o := .cells #[.int .i64 t221, .int .i64 t222, .int .i64 t223, .string t224] 23 (0, 0)) (by (with_reducible repeat (first | refine blk_drewN ?_ _ | refine blk_drew ?_ | refine blk_alloc ?_ _)); exact BK226.out) hb); have n1_ := Aside0.mk (below_step (by repeat (first | (with_reducible first | exact HB.out | apply below_alloc | apply pw_below_drewN | apply below_drew1 | refine below_set ?_ GE226.out) | exact HB.out)) hb); clear BK226; clear HB; have BK226 := n0_; have HB := n1_; clear n0_ n1_; (try clear hb); (try clear hb2); (try clear hk); (try clear hi)) | (go_at_call 27; (with_reducible refine (hoggetlaw04_order.calls k (⟨#[49, 46, 48, 46, 48, 45, 50]⟩ : ByteArray) (⟨#[49, 46, 48, 46, 48, 45, 49, 48]⟩ : ByteArray) t231 _ A16.out (by first | exact hLD | exact LD.below hLD (by repeat (first | exact HB.out | exact Below.refl _ _ | exact Aside0.out (by assumption) | apply below_alloc | apply pw_below_drewN | apply below_drew1 | refine below_set ?_ ?_)))).mono ?_); rintro e w20 ⟨rfl, hb⟩; have n0_ := Aside0.mk (blk_below (g := gb226) (o := .cells #[.int .i64 t221, .int .i64 t222, .int .i64 t223, .string t224] 23 (0, 0)) (by (with_reducible repeat (first | refine blk_drewN ?_ _ | refine blk_drew ?_ | refine blk_alloc ?_ _)); exact BK226.out) hb); have n1_ := Aside0.mk (below_step (by repeat (first | (with_reducible first | exact HB.out | apply below_alloc | apply pw_below_drewN | apply below_drew1 | refine below_set ?_ GE226.out) | exact HB.out)) hb); clear BK226; clear HB; have BK226 := n0_; have HB := n1_; clear n0_ n1_; (try clear hb); (try clear hb2); (try clear hk); (try clear hi)))
                go_meet
                case rel => exact ⟨_, ((t231 == (-1))), (by first | rfl | (simp; done) | (simp [*]; done) | exact Go.Proofs.YtijooffpjfhidaaDoor.Aid.ret_ne _ | exact Go.Proofs.YtijooffpjfhidaaDoor.Aid.ret_eq _), H', ⟨by first | omega | exact Nat.le_refl _⟩, ⟨by (with_reducible repeat (first | refine blk_drewN ?_ _ | refine blk_drew ?_ | refine blk_alloc ?_ _)); exact BK226.out⟩, ⟨by repeat (first | (with_reducible first | exact HB.out | apply below_alloc | apply pw_below_drewN | apply below_drew1 | refine below_set ?_ GE226.out) | exact HB.out)⟩⟩
              · rw [if_neg c15] at H
                have c15b0 : (t230 == 1) = false := beq_eq_false_iff_ne.mpr c15
                have c15b1 : (t230 != 1) = true := bne_iff_ne.mpr c15
                have H' := Aside0.mk H
                clear H
                have hcz21_0 : w7.cell? ⟨gb226, 0, none⟩ = some (.int .i64 t221) := (blk_cell BK226.out 0).trans rfl
                have hcz21_1 : w7.cell? ⟨gb226, 1, none⟩ = some (.int .i64 t222) := (blk_cell BK226.out 1).trans rfl
                have hcz21_2 : w7.cell? ⟨gb226, 2, none⟩ = some (.int .i64 t223) := (blk_cell BK226.out 2).trans rfl
                have hcz21_3 : w7.cell? ⟨gb226, 3, none⟩ = some (.string t224) := (blk_cell BK226.out 3).trans rfl
                have hfz21_0 := blk_frozen BK226.out 0
                have hfz21_1 := blk_frozen BK226.out 1
                have hfz21_2 := blk_frozen BK226.out 2
                have hfz21_3 := blk_frozen BK226.out 3
                go_wp2_with (first | (go_at_call 27; (with_reducible refine (hoggetlaw04_order.calls k (⟨#[49, 46, 50, 46, 51, 45, 97, 46, 49]⟩ : ByteArray) (⟨#[49, 46, 50, 46, 51]⟩ : ByteArray) t229 _ A12.out (by first | exact hLD | exact LD.below hLD (by repeat (first | exact HB.out | exact Below.refl _ _ | exact Aside0.out (by assumption) | apply below_alloc | apply pw_below_drewN | apply below_drew1 | refine below_set ?_ ?_)))).mono ?_); rintro e w22 ⟨rfl, hb⟩; have n0_ := Aside0.mk (blk_below (g := gb226) (o := .cells #[.int .i64 t221, .int .i64 t222, .int .i64 t223, .string t224] 23 (0, 0)) (by (with_reducible repeat (first | refine blk_drewN ?_ _ | refine blk_drew ?_ | refine blk_alloc ?_ _)); exact BK226.out) hb); have n1_ := Aside0.mk (below_step (by repeat (first | (with_reducible first | exact HB.out | apply below_alloc | apply pw_below_drewN | apply below_drew1 | refine below_set ?_ GE226.out) | exact HB.out)) hb); clear BK226; clear HB; have BK226 := n0_; have HB := n1_; clear n0_ n1_; (try clear hb); (try clear hb2); (try clear hk); (try clear hi)) | (go_at_call 27; (with_reducible refine (hoggetlaw04_order.calls k (⟨#[49, 46, 49, 48, 46, 48]⟩ : ByteArray) (⟨#[49, 46, 57, 46, 48]⟩ : ByteArray) t230 _ A14.out (by first | exact hLD | exact LD.below hLD (by repeat (first | exact HB.out | exact Below.refl _ _ | exact Aside0.out (by assumption) | apply below_alloc | apply pw_below_drewN | apply below_drew1 | refine below_set ?_ ?_)))).mono ?_); rintro e w23 ⟨rfl, hb⟩; have n0_ := Aside0.mk (blk_below (g := gb226) (o := .cells #[.int .i64 t221, .int .i64 t222, .int .i64 t223, .string t224] 23 (0, 0)) (by (with_reducible repeat (first | refine blk_drewN ?_ _ | refine blk_drew ?_ | refine blk_alloc ?_ _)); exact BK226.out) hb); have n1_ := Aside0.mk (below_step (by repeat (first | (with_reducible first | exact HB.out | apply below_alloc | apply pw_below_drewN | apply below_drew1 | refine below_set ?_ GE226.out) | exact HB.out)) hb); clear BK226; clear HB; have BK226 := n0_; have HB := n1_; clear n0_ n1_; (try clear hb); (try clear hb2); (try clear hk); (try clear hi)))
                go_meet
                case rel => exact ⟨_, (false), (by first | rfl | (simp; done) | (simp [*]; done) | exact Go.Proofs.YtijooffpjfhidaaDoor.Aid.ret_ne _ | exact Go.Proofs.YtijooffpjfhidaaDoor.Aid.ret_eq _), H', ⟨by first | omega | exact Nat.le_refl _⟩, ⟨by (with_reducible repeat (first | refine blk_drewN ?_ _ | refine blk_drew ?_ | refine blk_alloc ?_ _)); exact BK226.out⟩, ⟨by repeat (first | (with_reducible first | exact HB.out | apply below_alloc | apply pw_below_drewN | apply below_drew1 | refine below_set ?_ GE226.out) | exact HB.out)⟩⟩
            · rw [if_neg c13] at H
              have c13b0 : (t229 == (-1)) = false := beq_eq_false_iff_ne.mpr c13
              have c13b1 : (t229 != (-1)) = true := bne_iff_ne.mpr c13
              have H' := Aside0.mk H
              clear H
              have hcz24_0 : w7.cell? ⟨gb226, 0, none⟩ = some (.int .i64 t221) := (blk_cell BK226.out 0).trans rfl
              have hcz24_1 : w7.cell? ⟨gb226, 1, none⟩ = some (.int .i64 t222) := (blk_cell BK226.out 1).trans rfl
              have hcz24_2 : w7.cell? ⟨gb226, 2, none⟩ = some (.int .i64 t223) := (blk_cell BK226.out 2).trans rfl
              have hcz24_3 : w7.cell? ⟨gb226, 3, none⟩ = some (.string t224) := (blk_cell BK226.out 3).trans rfl
              have hfz24_0 := blk_frozen BK226.out 0
              have hfz24_1 := blk_frozen BK226.out 1
              have hfz24_2 := blk_frozen BK226.out 2
              have hfz24_3 := blk_frozen BK226.out 3
              go_wp2_with (first | (go_at_call 27; (with_reducible refine (hoggetlaw04_order.calls k (⟨#[49, 46, 50, 46, 51, 45, 97, 46, 49]⟩ : ByteArray) (⟨#[49, 46, 50, 46, 51]⟩ : ByteArray) t229 _ A12.out (by first | exact hLD | exact LD.below hLD (by repeat (first | exact HB.out | exact Below.refl _ _ | exact Aside0.out (by assumption) | apply below_alloc | apply pw_below_drewN | apply below_drew1 | refine below_set ?_ ?_)))).mono ?_); rintro e w25 ⟨rfl, hb⟩; have n0_ := Aside0.mk (blk_below (g := gb226) (o := .cells #[.int .i64 t221, .int .i64 t222, .int .i64 t223, .string t224] 23 (0, 0)) (by (with_reducible repeat (first | refine blk_drewN ?_ _ | refine blk_drew ?_ | refine blk_alloc ?_ _)); exact BK226.out) hb); have n1_ := Aside0.mk (below_step (by repeat (first | (with_reducible first | exact HB.out | apply below_alloc | apply pw_below_drewN | apply below_drew1 | refine below_set ?_ GE226.out) | exact HB.out)) hb); clear BK226; clear HB; have BK226 := n0_; have HB := n1_; clear n0_ n1_; (try clear hb); (try clear hb2); (try clear hk); (try clear hi)))
              go_meet
              case rel => exact ⟨_, (false), (by first | rfl | (simp; done) | (simp [*]; done) | exact Go.Proofs.YtijooffpjfhidaaDoor.Aid.ret_ne _ | exact Go.Proofs.YtijooffpjfhidaaDoor.Aid.ret_eq _), H', ⟨by first | omega | exact Nat.le_refl _⟩, ⟨by (with_reducible repeat (first | refine blk_drewN ?_ _ | refine blk_drew ?_ | refine blk_alloc ?_ _)); exact BK226.out⟩, ⟨by repeat (first | (with_reducible first | exact HB.out | apply below_alloc | apply pw_below_drewN | apply below_drew1 | refine below_set ?_ GE226.out) | exact HB.out)⟩⟩
          · rw [if_neg c11] at H
            have c11b0 : (t227.toList == ([49, 46, 50, 46, 51, 45, 97, 46, 49] : List UInt8)) = false := beq_eq_false_iff_ne.mpr c11
            have c11b1 : (t227.toList != ([49, 46, 50, 46, 51, 45, 97, 46, 49] : List UInt8)) = true := bne_iff_ne.mpr c11
            have H' := Aside0.mk H
            clear H
            have hcz26_0 : w7.cell? ⟨gb226, 0, none⟩ = some (.int .i64 t221) := (blk_cell BK226.out 0).trans rfl
            have hcz26_1 : w7.cell? ⟨gb226, 1, none⟩ = some (.int .i64 t222) := (blk_cell BK226.out 1).trans rfl
            have hcz26_2 : w7.cell? ⟨gb226, 2, none⟩ = some (.int .i64 t223) := (blk_cell BK226.out 2).trans rfl
            have hcz26_3 : w7.cell? ⟨gb226, 3, none⟩ = some (.string t224) := (blk_cell BK226.out 3).trans rfl
            have hfz26_0 := blk_frozen BK226.out 0
            have hfz26_1 := blk_frozen BK226.out 1
            have hfz26_2 := blk_frozen BK226.out 2
            have hfz26_3 := blk_frozen BK226.out 3
            go_wp2
            go_meet
            case rel => exact ⟨_, (false), (by first | rfl | (simp; done) | (simp [*]; done) | exact Go.Proofs.YtijooffpjfhidaaDoor.Aid.ret_ne _ | exact Go.Proofs.YtijooffpjfhidaaDoor.Aid.ret_eq _), H', ⟨by first | omega | exact Nat.le_refl _⟩, ⟨by (with_reducible repeat (first | refine blk_drewN ?_ _ | refine blk_drew ?_ | refine blk_alloc ?_ _)); exact BK226.out⟩, ⟨by repeat (first | (with_reducible first | exact HB.out | apply below_alloc | apply pw_below_drewN | apply below_drew1 | refine below_set ?_ GE226.out) | exact HB.out)⟩⟩
        · replace c10 := Bool.eq_false_iff.mpr c10
          subst c10
          have H1 : (hoggetlaw04_versions.j0 k false) = some r := by rw [if_neg (show ¬ (false = true) by decide)] at H; exact H
          clear H
          have H := H1
          clear H1
          have H' := Aside0.mk H
          clear H
          have hcz27_0 : w7.cell? ⟨gb226, 0, none⟩ = some (.int .i64 t221) := (blk_cell BK226.out 0).trans rfl
          have hcz27_1 : w7.cell? ⟨gb226, 1, none⟩ = some (.int .i64 t222) := (blk_cell BK226.out 1).trans rfl
          have hcz27_2 : w7.cell? ⟨gb226, 2, none⟩ = some (.int .i64 t223) := (blk_cell BK226.out 2).trans rfl
          have hcz27_3 : w7.cell? ⟨gb226, 3, none⟩ = some (.string t224) := (blk_cell BK226.out 3).trans rfl
          have hfz27_0 := blk_frozen BK226.out 0
          have hfz27_1 := blk_frozen BK226.out 1
          have hfz27_2 := blk_frozen BK226.out 2
          have hfz27_3 := blk_frozen BK226.out 3
          go_wp2
          go_meet
          case rel => exact ⟨_, (false), (by first | rfl | (simp; done) | (simp [*]; done) | exact Go.Proofs.YtijooffpjfhidaaDoor.Aid.ret_ne _ | exact Go.Proofs.YtijooffpjfhidaaDoor.Aid.ret_eq _), H', ⟨by first | omega | exact Nat.le_refl _⟩, ⟨by (with_reducible repeat (first | refine blk_drewN ?_ _ | refine blk_drew ?_ | refine blk_alloc ?_ _)); exact BK226.out⟩, ⟨by repeat (first | (with_reducible first | exact HB.out | apply below_alloc | apply pw_below_drewN | apply below_drew1 | refine below_set ?_ GE226.out) | exact HB.out)⟩⟩
      · rw [if_neg c9] at H
        have c9b0 : (t221 == 1 && (t222 == 2 && (t223 == 3 && (t224.toList == ([97, 46, 49] : List UInt8))))) = false := by simpa using c9
        (try (have c9b1 : decide (t221 = 1 && (t222 == 2 && (t223 == 3 && (t224.toList == ([97, 46, 49] : List UInt8))))) = false := by simpa using c9))
        (try (have c9b2 : (t221 == 1 && (t222 == 2 && (t223 == 3 && (t224.toList == ([97, 46, 49] : List UInt8))))) = false := by simpa using c9))
        (try (have c9b3 : ¬ (t221 = 1 && (t222 == 2 && (t223 == 3 && (t224.toList == ([97, 46, 49] : List UInt8))))) := by simpa using c9))
        clear c9
        (first | rw [c9b0] | (simp only [i64_w, i32_w]; rw [c9b0]) | skip)
        have H' := Aside0.mk H
        clear H
        have hcz28_0 : w7.cell? ⟨gb226, 0, none⟩ = some (.int .i64 t221) := (blk_cell BK226.out 0).trans rfl
        have hcz28_1 : w7.cell? ⟨gb226, 1, none⟩ = some (.int .i64 t222) := (blk_cell BK226.out 1).trans rfl
        have hcz28_2 : w7.cell? ⟨gb226, 2, none⟩ = some (.int .i64 t223) := (blk_cell BK226.out 2).trans rfl
        have hcz28_3 : w7.cell? ⟨gb226, 3, none⟩ = some (.string t224) := (blk_cell BK226.out 3).trans rfl
        have hfz28_0 := blk_frozen BK226.out 0
        have hfz28_1 := blk_frozen BK226.out 1
        have hfz28_2 := blk_frozen BK226.out 2
        have hfz28_3 := blk_frozen BK226.out 3
        go_wp2
        go_meet
        case rel => exact ⟨_, (false), (by first | rfl | (simp; done) | (simp [*]; done) | exact Go.Proofs.YtijooffpjfhidaaDoor.Aid.ret_ne _ | exact Go.Proofs.YtijooffpjfhidaaDoor.Aid.ret_eq _), H', ⟨by first | omega | exact Nat.le_refl _⟩, ⟨by (with_reducible repeat (first | refine blk_drewN ?_ _ | refine blk_drew ?_ | refine blk_alloc ?_ _)); exact BK226.out⟩, ⟨by repeat (first | (with_reducible first | exact HB.out | apply below_alloc | apply pw_below_drewN | apply below_drew1 | refine below_set ?_ GE226.out) | exact HB.out)⟩⟩
    · replace c8 := Bool.eq_false_iff.mpr c8
      subst c8
      have H1 : (hoggetlaw04_versions.j0 k false) = some r := by rw [if_neg (show ¬ (false = true) by decide)] at H; exact H
      clear H
      have H := H1
      clear H1
      have H' := Aside0.mk H
      clear H
      go_wp2
      go_meet
      case rel => exact ⟨_, (false), (by first | rfl | (simp; done) | (simp [*]; done) | exact Go.Proofs.YtijooffpjfhidaaDoor.Aid.ret_ne _ | exact Go.Proofs.YtijooffpjfhidaaDoor.Aid.ret_eq _), H', ⟨by first | omega | exact Nat.le_refl _⟩, ⟨by (with_reducible repeat (first | refine blk_drewN ?_ _ | refine blk_drew ?_ | refine blk_alloc ?_ _)); exact BK226.out⟩, ⟨by repeat (first | (with_reducible first | exact HB.out | apply below_alloc | apply pw_below_drewN | apply below_drew1 | refine below_set ?_ GE226.out) | exact HB.out)⟩⟩
  case rest =>
    clear HC3
    try clear c1
    try clear p2
    try clear c8
    try clear c9
    try clear c9b0
    try clear c9b1
    try clear c9b2
    try clear c10
    try clear c11
    try clear c11b0
    try clear c11b1
    try clear c12
    try clear c13
    try clear c13b0
    try clear c13b1
    try clear c14
    try clear c15
    try clear c15b0
    try clear c15b1
    try clear hcz17_0
    try clear hcz17_1
    try clear hcz17_2
    try clear hcz17_3
    try clear hcz21_0
    try clear hcz21_1
    try clear hcz21_2
    try clear hcz21_3
    try clear hcz24_0
    try clear hcz24_1
    try clear hcz24_2
    try clear hcz24_3
    try clear hcz26_0
    try clear hcz26_1
    try clear hcz26_2
    try clear hcz26_3
    try clear hcz27_0
    try clear hcz27_1
    try clear hcz27_2
    try clear hcz27_3
    try clear hcz28_0
    try clear hcz28_1
    try clear hcz28_2
    try clear hcz28_3
    try clear hcz6_0
    try clear hcz6_1
    try clear hcz6_2
    try clear hcz6_3
    try clear hfz17_0
    try clear hfz17_1
    try clear hfz17_2
    try clear hfz17_3
    try clear hfz21_0
    try clear hfz21_1
    try clear hfz21_2
    try clear hfz21_3
    try clear hfz24_0
    try clear hfz24_1
    try clear hfz24_2
    try clear hfz24_3
    try clear hfz26_0
    try clear hfz26_1
    try clear hfz26_2
    try clear hfz26_3
    try clear hfz27_0
    try clear hfz27_1
    try clear hfz27_2
    try clear hfz27_3
    try clear hfz28_0
    try clear hfz28_1
    try clear hfz28_2
    try clear hfz28_3
    try clear hfz6_0
    try clear hfz6_1
    try clear hfz6_2
    try clear hfz6_3
    obtain ⟨kq, x5_2, rfl, HA, HJ2, BK226, HB⟩ := hcut
    cases kq with
    | zero => exact absurd HA.out (by simp [hoggetlaw04_versions.j0])
    | succ kj2 =>
      have H := HA.out
      clear HA
      simp only [hoggetlaw04_versions.j0] at H
      by_cases c29 : x5_2 = true
      · subst c29
        have H1 : ((hoggetlaw04_order.f kj2 (⟨#[49, 46, 48, 46, 48, 45, 50]⟩ : ByteArray) (⟨#[49, 46, 48, 46, 48, 45, 97]⟩ : ByteArray)).bind fun t232 => (if t232 = (-1) then ((hoggetlaw04_order.f kj2 (⟨#[49, 46, 48, 46, 48, 45, 97]⟩ : ByteArray) (⟨#[49, 46, 48, 46, 48, 45, 97, 46, 48]⟩ : ByteArray)).bind fun t233 => (if t233 = (-1) then ((hoggetlaw04_order.f kj2 (⟨#[48, 49, 46, 48, 46, 48]⟩ : ByteArray) (⟨#[49, 46, 48, 46, 48]⟩ : ByteArray)).bind fun t234 => (if t234 = 7 then ((hoggetlaw04_order.f kj2 (⟨#[49, 46, 48]⟩ : ByteArray) (⟨#[49, 46, 48, 46, 48]⟩ : ByteArray)).bind fun t235 => (if t235 = 7 then ((hoggetlaw04_order.f kj2 (⟨#[49, 46, 48, 46, 48, 45, 48, 49]⟩ : ByteArray) (⟨#[49, 46, 48, 46, 48]⟩ : ByteArray)).bind fun t236 => (if t236 = 7 then ((hoggetlaw04_order.f kj2 (⟨#[49, 46, 48, 46, 48, 45]⟩ : ByteArray) (⟨#[49, 46, 48, 46, 48]⟩ : ByteArray)).bind fun t237 => (if t237 = 7 then ((hoggetlaw04_order.f kj2 (⟨#[49, 46, 48, 46, 48]⟩ : ByteArray) (⟨#[49, 46, 48, 46, 48]⟩ : ByteArray)).bind fun t238 => (some (t238 == 0))) else (some false))) else (some false))) else (some false))) else (some false))) else (some false))) else (some false))) = some r := by rw [if_pos rfl] at H; exact H
        clear H
        have H := H1
        clear H1
        replace H := Option.bind_eq_some_iff.mp H
        obtain ⟨t232, A300, H⟩ := H
        replace H : (if t232 = (-1) then ((hoggetlaw04_order.f kj2 (⟨#[49, 46, 48, 46, 48, 45, 97]⟩ : ByteArray) (⟨#[49, 46, 48, 46, 48, 45, 97, 46, 48]⟩ : ByteArray)).bind fun t233 => (if t233 = (-1) then ((hoggetlaw04_order.f kj2 (⟨#[48, 49, 46, 48, 46, 48]⟩ : ByteArray) (⟨#[49, 46, 48, 46, 48]⟩ : ByteArray)).bind fun t234 => (if t234 = 7 then ((hoggetlaw04_order.f kj2 (⟨#[49, 46, 48]⟩ : ByteArray) (⟨#[49, 46, 48, 46, 48]⟩ : ByteArray)).bind fun t235 => (if t235 = 7 then ((hoggetlaw04_order.f kj2 (⟨#[49, 46, 48, 46, 48, 45, 48, 49]⟩ : ByteArray) (⟨#[49, 46, 48, 46, 48]⟩ : ByteArray)).bind fun t236 => (if t236 = 7 then ((hoggetlaw04_order.f kj2 (⟨#[49, 46, 48, 46, 48, 45]⟩ : ByteArray) (⟨#[49, 46, 48, 46, 48]⟩ : ByteArray)).bind fun t237 => (if t237 = 7 then ((hoggetlaw04_order.f kj2 (⟨#[49, 46, 48, 46, 48]⟩ : ByteArray) (⟨#[49, 46, 48, 46, 48]⟩ : ByteArray)).bind fun t238 => (some (t238 == 0))) else (some false))) else (some false))) else (some false))) else (some false))) else (some false))) else (some false)) = some r := H
        have A30 := Aside0.mk A300
        clear A300
        by_cases c31 : t232 = (-1)
        · rw [if_pos c31] at H
          have c31b0 : (t232 == (-1)) = true := beq_iff_eq.mpr c31
          have c31b1 : (t232 != (-1)) = false := bne_eq_false_iff_eq.mpr c31
          clear c31
          replace H := Option.bind_eq_some_iff.mp H
          obtain ⟨t233, A320, H⟩ := H
          replace H : (if t233 = (-1) then ((hoggetlaw04_order.f kj2 (⟨#[48, 49, 46, 48, 46, 48]⟩ : ByteArray) (⟨#[49, 46, 48, 46, 48]⟩ : ByteArray)).bind fun t234 => (if t234 = 7 then ((hoggetlaw04_order.f kj2 (⟨#[49, 46, 48]⟩ : ByteArray) (⟨#[49, 46, 48, 46, 48]⟩ : ByteArray)).bind fun t235 => (if t235 = 7 then ((hoggetlaw04_order.f kj2 (⟨#[49, 46, 48, 46, 48, 45, 48, 49]⟩ : ByteArray) (⟨#[49, 46, 48, 46, 48]⟩ : ByteArray)).bind fun t236 => (if t236 = 7 then ((hoggetlaw04_order.f kj2 (⟨#[49, 46, 48, 46, 48, 45]⟩ : ByteArray) (⟨#[49, 46, 48, 46, 48]⟩ : ByteArray)).bind fun t237 => (if t237 = 7 then ((hoggetlaw04_order.f kj2 (⟨#[49, 46, 48, 46, 48]⟩ : ByteArray) (⟨#[49, 46, 48, 46, 48]⟩ : ByteArray)).bind fun t238 => (some (t238 == 0))) else (some false))) else (some false))) else (some false))) else (some false))) else (some false)) = some r := H
          have A32 := Aside0.mk A320
          clear A320
          by_cases c33 : t233 = (-1)
          · rw [if_pos c33] at H
            have c33b0 : (t233 == (-1)) = true := beq_iff_eq.mpr c33
            have c33b1 : (t233 != (-1)) = false := bne_eq_false_iff_eq.mpr c33
            clear c33
            replace H := Option.bind_eq_some_iff.mp H
            obtain ⟨t234, A340, H⟩ := H
            replace H : (if t234 = 7 then ((hoggetlaw04_order.f kj2 (⟨#[49, 46, 48]⟩ : ByteArray) (⟨#[49, 46, 48, 46, 48]⟩ : ByteArray)).bind fun t235 => (if t235 = 7 then ((hoggetlaw04_order.f kj2 (⟨#[49, 46, 48, 46, 48, 45, 48, 49]⟩ : ByteArray) (⟨#[49, 46, 48, 46, 48]⟩ : ByteArray)).bind fun t236 => (if t236 = 7 then ((hoggetlaw04_order.f kj2 (⟨#[49, 46, 48, 46, 48, 45]⟩ : ByteArray) (⟨#[49, 46, 48, 46, 48]⟩ : ByteArray)).bind fun t237 => (if t237 = 7 then ((hoggetlaw04_order.f kj2 (⟨#[49, 46, 48, 46, 48]⟩ : ByteArray) (⟨#[49, 46, 48, 46, 48]⟩ : ByteArray)).bind fun t238 => (some (t238 == 0))) else (some false))) else (some false))) else (some false))) else (some false)) = some r := H
            have A34 := Aside0.mk A340
            clear A340
            by_cases c35 : t234 = 7
            · rw [if_pos c35] at H
              have c35b0 : (t234 == 7) = true := beq_iff_eq.mpr c35
              have c35b1 : (t234 != 7) = false := bne_eq_false_iff_eq.mpr c35
              clear c35
              replace H := Option.bind_eq_some_iff.mp H
              obtain ⟨t235, A360, H⟩ := H
              replace H : (if t235 = 7 then ((hoggetlaw04_order.f kj2 (⟨#[49, 46, 48, 46, 48, 45, 48, 49]⟩ : ByteArray) (⟨#[49, 46, 48, 46, 48]⟩ : ByteArray)).bind fun t236 => (if t236 = 7 then ((hoggetlaw04_order.f kj2 (⟨#[49, 46, 48, 46, 48, 45]⟩ : ByteArray) (⟨#[49, 46, 48, 46, 48]⟩ : ByteArray)).bind fun t237 => (if t237 = 7 then ((hoggetlaw04_order.f kj2 (⟨#[49, 46, 48, 46, 48]⟩ : ByteArray) (⟨#[49, 46, 48, 46, 48]⟩ : ByteArray)).bind fun t238 => (some (t238 == 0))) else (some false))) else (some false))) else (some false)) = some r := H
              have A36 := Aside0.mk A360
              clear A360
              by_cases c37 : t235 = 7
              · rw [if_pos c37] at H
                have c37b0 : (t235 == 7) = true := beq_iff_eq.mpr c37
                have c37b1 : (t235 != 7) = false := bne_eq_false_iff_eq.mpr c37
                clear c37
                replace H := Option.bind_eq_some_iff.mp H
                obtain ⟨t236, A380, H⟩ := H
                replace H : (if t236 = 7 then ((hoggetlaw04_order.f kj2 (⟨#[49, 46, 48, 46, 48, 45]⟩ : ByteArray) (⟨#[49, 46, 48, 46, 48]⟩ : ByteArray)).bind fun t237 => (if t237 = 7 then ((hoggetlaw04_order.f kj2 (⟨#[49, 46, 48, 46, 48]⟩ : ByteArray) (⟨#[49, 46, 48, 46, 48]⟩ : ByteArray)).bind fun t238 => (some (t238 == 0))) else (some false))) else (some false)) = some r := H
                have A38 := Aside0.mk A380
                clear A380
                by_cases c39 : t236 = 7
                · rw [if_pos c39] at H
                  have c39b0 : (t236 == 7) = true := beq_iff_eq.mpr c39
                  have c39b1 : (t236 != 7) = false := bne_eq_false_iff_eq.mpr c39
                  clear c39
                  replace H := Option.bind_eq_some_iff.mp H
                  obtain ⟨t237, A400, H⟩ := H
                  replace H : (if t237 = 7 then ((hoggetlaw04_order.f kj2 (⟨#[49, 46, 48, 46, 48]⟩ : ByteArray) (⟨#[49, 46, 48, 46, 48]⟩ : ByteArray)).bind fun t238 => (some (t238 == 0))) else (some false)) = some r := H
                  have A40 := Aside0.mk A400
                  clear A400
                  by_cases c41 : t237 = 7
                  · rw [if_pos c41] at H
                    have c41b0 : (t237 == 7) = true := beq_iff_eq.mpr c41
                    have c41b1 : (t237 != 7) = false := bne_eq_false_iff_eq.mpr c41
                    clear c41
                    replace H := Option.bind_eq_some_iff.mp H
                    obtain ⟨t238, A420, H⟩ := H
                    replace H : (some (t238 == 0)) = some r := H
                    have A42 := Aside0.mk A420
                    clear A420
                    obtain rfl := Option.some.inj H
                    go_wp2_with (first | (go_at_call 27; (with_reducible refine (hoggetlaw04_order.calls kj2 (⟨#[49, 46, 48, 46, 48, 45, 50]⟩ : ByteArray) (⟨#[49, 46, 48, 46, 48, 45, 97]⟩ : ByteArray) t232 _ A30.out (by first | exact hLD | exact LD.below hLD (by repeat (first | exact HB.out | exact Below.refl _ _ | exact Aside0.out (by assumption) | apply below_alloc | apply pw_below_drewN | apply below_drew1 | refine below_set ?_ ?_)))).mono ?_); rintro e w43 ⟨rfl, hb⟩; have n0_ := Aside0.mk (blk_below (g := gb226) (o := .cells #[.int .i64 t221, .int .i64 t222, .int .i64 t223, .string t224] 23 (0, 0)) (by (with_reducible repeat (first | refine blk_drewN ?_ _ | refine blk_drew ?_ | refine blk_alloc ?_ _)); exact BK226.out) hb); have n1_ := Aside0.mk (below_step (by repeat (first | (with_reducible first | exact HB.out | apply below_alloc | apply pw_below_drewN | apply below_drew1 | refine below_set ?_ GE226.out) | exact HB.out)) hb); clear BK226; clear HB; have BK226 := n0_; have HB := n1_; clear n0_ n1_; (try clear hb); (try clear hb2); (try clear hk); (try clear hi)) | (go_at_call 27; (with_reducible refine (hoggetlaw04_order.calls kj2 (⟨#[49, 46, 48, 46, 48, 45, 97]⟩ : ByteArray) (⟨#[49, 46, 48, 46, 48, 45, 97, 46, 48]⟩ : ByteArray) t233 _ A32.out (by first | exact hLD | exact LD.below hLD (by repeat (first | exact HB.out | exact Below.refl _ _ | exact Aside0.out (by assumption) | apply below_alloc | apply pw_below_drewN | apply below_drew1 | refine below_set ?_ ?_)))).mono ?_); rintro e w44 ⟨rfl, hb⟩; have n0_ := Aside0.mk (blk_below (g := gb226) (o := .cells #[.int .i64 t221, .int .i64 t222, .int .i64 t223, .string t224] 23 (0, 0)) (by (with_reducible repeat (first | refine blk_drewN ?_ _ | refine blk_drew ?_ | refine blk_alloc ?_ _)); exact BK226.out) hb); have n1_ := Aside0.mk (below_step (by repeat (first | (with_reducible first | exact HB.out | apply below_alloc | apply pw_below_drewN | apply below_drew1 | refine below_set ?_ GE226.out) | exact HB.out)) hb); clear BK226; clear HB; have BK226 := n0_; have HB := n1_; clear n0_ n1_; (try clear hb); (try clear hb2); (try clear hk); (try clear hi)) | (go_at_call 27; (with_reducible refine (hoggetlaw04_order.calls kj2 (⟨#[48, 49, 46, 48, 46, 48]⟩ : ByteArray) (⟨#[49, 46, 48, 46, 48]⟩ : ByteArray) t234 _ A34.out (by first | exact hLD | exact LD.below hLD (by repeat (first | exact HB.out | exact Below.refl _ _ | exact Aside0.out (by assumption) | apply below_alloc | apply pw_below_drewN | apply below_drew1 | refine below_set ?_ ?_)))).mono ?_); rintro e w45 ⟨rfl, hb⟩; have n0_ := Aside0.mk (blk_below (g := gb226) (o := .cells #[.int .i64 t221, .int .i64 t222, .int .i64 t223, .string t224] 23 (0, 0)) (by (with_reducible repeat (first | refine blk_drewN ?_ _ | refine blk_drew ?_ | refine blk_alloc ?_ _)); exact BK226.out) hb); have n1_ := Aside0.mk (below_step (by repeat (first | (with_reducible first | exact HB.out | apply below_alloc | apply pw_below_drewN | apply below_drew1 | refine below_set ?_ GE226.out) | exact HB.out)) hb); clear BK226; clear HB; have BK226 := n0_; have HB := n1_; clear n0_ n1_; (try clear hb); (try clear hb2); (try clear hk); (try clear hi)) | (go_at_call 27; (with_reducible refine (hoggetlaw04_order.calls kj2 (⟨#[49, 46, 48]⟩ : ByteArray) (⟨#[49, 46, 48, 46, 48]⟩ : ByteArray) t235 _ A36.out (by first | exact hLD | exact LD.below hLD (by repeat (first | exact HB.out | exact Below.refl _ _ | exact Aside0.out (by assumption) | apply below_alloc | apply pw_below_drewN | apply below_drew1 | refine below_set ?_ ?_)))).mono ?_); rintro e w46 ⟨rfl, hb⟩; have n0_ := Aside0.mk (blk_below (g := gb226) (o := .cells #[.int .i64 t221, .int .i64 t222, .int .i64 t223, .string t224] 23 (0, 0)) (by (with_reducible repeat (first | refine blk_drewN ?_ _ | refine blk_drew ?_ | refine blk_alloc ?_ _)); exact BK226.out) hb); have n1_ := Aside0.mk (below_step (by repeat (first | (with_reducible first | exact HB.out | apply below_alloc | apply pw_below_drewN | apply below_drew1 | refine below_set ?_ GE226.out) | exact HB.out)) hb); clear BK226; clear HB; have BK226 := n0_; have HB := n1_; clear n0_ n1_; (try clear hb); (try clear hb2); (try clear hk); (try clear hi)) | (go_at_call 27; (with_reducible refine (hoggetlaw04_order.calls kj2 (⟨#[49, 46, 48, 46, 48, 45, 48, 49]⟩ : ByteArray) (⟨#[49, 46, 48, 46, 48]⟩ : ByteArray) t236 _ A38.out (by first | exact hLD | exact LD.below hLD (by repeat (first | exact HB.out | exact Below.refl _ _ | exact Aside0.out (by assumption) | apply below_alloc | apply pw_below_drewN | apply below_drew1 | refine below_set ?_ ?_)))).mono ?_); rintro e w47 ⟨rfl, hb⟩; have n0_ := Aside0.mk (blk_below (g := gb226) (o := .cells #[.int .i64 t221, .int .i64 t222, .int .i64 t223, .string t224] 23 (0, 0)) (by (with_reducible repeat (first | refine blk_drewN ?_ _ | refine blk_drew ?_ | refine blk_alloc ?_ _)); exact BK226.out) hb); have n1_ := Aside0.mk (below_step (by repeat (first | (with_reducible first | exact HB.out | apply below_alloc | apply pw_below_drewN | apply below_drew1 | refine below_set ?_ GE226.out) | exact HB.out)) hb); clear BK226; clear HB; have BK226 := n0_; have HB := n1_; clear n0_ n1_; (try clear hb); (try clear hb2); (try clear hk); (try clear hi)) | (go_at_call 27; (with_reducible refine (hoggetlaw04_order.calls kj2 (⟨#[49, 46, 48, 46, 48, 45]⟩ : ByteArray) (⟨#[49, 46, 48, 46, 48]⟩ : ByteArray) t237 _ A40.out (by first | exact hLD | exact LD.below hLD (by repeat (first | exact HB.out | exact Below.refl _ _ | exact Aside0.out (by assumption) | apply below_alloc | apply pw_below_drewN | apply below_drew1 | refine below_set ?_ ?_)))).mono ?_); rintro e w48 ⟨rfl, hb⟩; have n0_ := Aside0.mk (blk_below (g := gb226) (o := .cells #[.int .i64 t221, .int .i64 t222, .int .i64 t223, .string t224] 23 (0, 0)) (by (with_reducible repeat (first | refine blk_drewN ?_ _ | refine blk_drew ?_ | refine blk_alloc ?_ _)); exact BK226.out) hb); have n1_ := Aside0.mk (below_step (by repeat (first | (with_reducible first | exact HB.out | apply below_alloc | apply pw_below_drewN | apply below_drew1 | refine below_set ?_ GE226.out) | exact HB.out)) hb); clear BK226; clear HB; have BK226 := n0_; have HB := n1_; clear n0_ n1_; (try clear hb); (try clear hb2); (try clear hk); (try clear hi)) | (go_at_call 27; (with_reducible refine (hoggetlaw04_order.calls kj2 (⟨#[49, 46, 48, 46, 48]⟩ : ByteArray) (⟨#[49, 46, 48, 46, 48]⟩ : ByteArray) t238 _ A42.out (by first | exact hLD | exact LD.below hLD (by repeat (first | exact HB.out | exact Below.refl _ _ | exact Aside0.out (by assumption) | apply below_alloc | apply pw_below_drewN | apply below_drew1 | refine below_set ?_ ?_)))).mono ?_); rintro e w49 ⟨rfl, hb⟩; have n0_ := Aside0.mk (blk_below (g := gb226) (o := .cells #[.int .i64 t221, .int .i64 t222, .int .i64 t223, .string t224] 23 (0, 0)) (by (with_reducible repeat (first | refine blk_drewN ?_ _ | refine blk_drew ?_ | refine blk_alloc ?_ _)); exact BK226.out) hb); have n1_ := Aside0.mk (below_step (by repeat (first | (with_reducible first | exact HB.out | apply below_alloc | apply pw_below_drewN | apply below_drew1 | refine below_set ?_ GE226.out) | exact HB.out)) hb); clear BK226; clear HB; have BK226 := n0_; have HB := n1_; clear n0_ n1_; (try clear hb); (try clear hb2); (try clear hk); (try clear hi)))
                    go_ret
                    exact ⟨by first | rfl | (simp [errW_none, errW_some] <;> rfl) | (simp [*, errW_none, errW_some] <;> rfl), by repeat (first | (with_reducible first | exact HB.out | apply below_alloc | apply pw_below_drewN | apply below_drew1 | refine below_set ?_ GE226.out) | exact HB.out)⟩
                  · rw [if_neg c41] at H
                    have c41b0 : (t237 == 7) = false := beq_eq_false_iff_ne.mpr c41
                    have c41b1 : (t237 != 7) = true := bne_iff_ne.mpr c41
                    obtain rfl := Option.some.inj H
                    go_wp2_with (first | (go_at_call 27; (with_reducible refine (hoggetlaw04_order.calls kj2 (⟨#[49, 46, 48, 46, 48, 45, 50]⟩ : ByteArray) (⟨#[49, 46, 48, 46, 48, 45, 97]⟩ : ByteArray) t232 _ A30.out (by first | exact hLD | exact LD.below hLD (by repeat (first | exact HB.out | exact Below.refl _ _ | exact Aside0.out (by assumption) | apply below_alloc | apply pw_below_drewN | apply below_drew1 | refine below_set ?_ ?_)))).mono ?_); rintro e w50 ⟨rfl, hb⟩; have n0_ := Aside0.mk (blk_below (g := gb226) (o := .cells #[.int .i64 t221, .int .i64 t222, .int .i64 t223, .string t224] 23 (0, 0)) (by (with_reducible repeat (first | refine blk_drewN ?_ _ | refine blk_drew ?_ | refine blk_alloc ?_ _)); exact BK226.out) hb); have n1_ := Aside0.mk (below_step (by repeat (first | (with_reducible first | exact HB.out | apply below_alloc | apply pw_below_drewN | apply below_drew1 | refine below_set ?_ GE226.out) | exact HB.out)) hb); clear BK226; clear HB; have BK226 := n0_; have HB := n1_; clear n0_ n1_; (try clear hb); (try clear hb2); (try clear hk); (try clear hi)) | (go_at_call 27; (with_reducible refine (hoggetlaw04_order.calls kj2 (⟨#[49, 46, 48, 46, 48, 45, 97]⟩ : ByteArray) (⟨#[49, 46, 48, 46, 48, 45, 97, 46, 48]⟩ : ByteArray) t233 _ A32.out (by first | exact hLD | exact LD.below hLD (by repeat (first | exact HB.out | exact Below.refl _ _ | exact Aside0.out (by assumption) | apply below_alloc | apply pw_below_drewN | apply below_drew1 | refine below_set ?_ ?_)))).mono ?_); rintro e w51 ⟨rfl, hb⟩; have n0_ := Aside0.mk (blk_below (g := gb226) (o := .cells #[.int .i64 t221, .int .i64 t222, .int .i64 t223, .string t224] 23 (0, 0)) (by (with_reducible repeat (first | refine blk_drewN ?_ _ | refine blk_drew ?_ | refine blk_alloc ?_ _)); exact BK226.out) hb); have n1_ := Aside0.mk (below_step (by repeat (first | (with_reducible first | exact HB.out | apply below_alloc | apply pw_below_drewN | apply below_drew1 | refine below_set ?_ GE226.out) | exact HB.out)) hb); clear BK226; clear HB; have BK226 := n0_; have HB := n1_; clear n0_ n1_; (try clear hb); (try clear hb2); (try clear hk); (try clear hi)) | (go_at_call 27; (with_reducible refine (hoggetlaw04_order.calls kj2 (⟨#[48, 49, 46, 48, 46, 48]⟩ : ByteArray) (⟨#[49, 46, 48, 46, 48]⟩ : ByteArray) t234 _ A34.out (by first | exact hLD | exact LD.below hLD (by repeat (first | exact HB.out | exact Below.refl _ _ | exact Aside0.out (by assumption) | apply below_alloc | apply pw_below_drewN | apply below_drew1 | refine below_set ?_ ?_)))).mono ?_); rintro e w52 ⟨rfl, hb⟩; have n0_ := Aside0.mk (blk_below (g := gb226) (o := .cells #[.int .i64 t221, .int .i64 t222, .int .i64 t223, .string t224] 23 (0, 0)) (by (with_reducible repeat (first | refine blk_drewN ?_ _ | refine blk_drew ?_ | refine blk_alloc ?_ _)); exact BK226.out) hb); have n1_ := Aside0.mk (below_step (by repeat (first | (with_reducible first | exact HB.out | apply below_alloc | apply pw_below_drewN | apply below_drew1 | refine below_set ?_ GE226.out) | exact HB.out)) hb); clear BK226; clear HB; have BK226 := n0_; have HB := n1_; clear n0_ n1_; (try clear hb); (try clear hb2); (try clear hk); (try clear hi)) | (go_at_call 27; (with_reducible refine (hoggetlaw04_order.calls kj2 (⟨#[49, 46, 48]⟩ : ByteArray) (⟨#[49, 46, 48, 46, 48]⟩ : ByteArray) t235 _ A36.out (by first | exact hLD | exact LD.below hLD (by repeat (first | exact HB.out | exact Below.refl _ _ | exact Aside0.out (by assumption) | apply below_alloc | apply pw_below_drewN | apply below_drew1 | refine below_set ?_ ?_)))).mono ?_); rintro e w53 ⟨rfl, hb⟩; have n0_ := Aside0.mk (blk_below (g := gb226) (o := .cells #[.int .i64 t221, .int .i64 t222, .int .i64 t223, .string t224] 23 (0, 0)) (by (with_reducible repeat (first | refine blk_drewN ?_ _ | refine blk_drew ?_ | refine blk_alloc ?_ _)); exact BK226.out) hb); have n1_ := Aside0.mk (below_step (by repeat (first | (with_reducible first | exact HB.out | apply below_alloc | apply pw_below_drewN | apply below_drew1 | refine below_set ?_ GE226.out) | exact HB.out)) hb); clear BK226; clear HB; have BK226 := n0_; have HB := n1_; clear n0_ n1_; (try clear hb); (try clear hb2); (try clear hk); (try clear hi)) | (go_at_call 27; (with_reducible refine (hoggetlaw04_order.calls kj2 (⟨#[49, 46, 48, 46, 48, 45, 48, 49]⟩ : ByteArray) (⟨#[49, 46, 48, 46, 48]⟩ : ByteArray) t236 _ A38.out (by first | exact hLD | exact LD.below hLD (by repeat (first | exact HB.out | exact Below.refl _ _ | exact Aside0.out (by assumption) | apply below_alloc | apply pw_below_drewN | apply below_drew1 | refine below_set ?_ ?_)))).mono ?_); rintro e w54 ⟨rfl, hb⟩; have n0_ := Aside0.mk (blk_below (g := gb226) (o := .cells #[.int .i64 t221, .int .i64 t222, .int .i64 t223, .string t224] 23 (0, 0)) (by (with_reducible repeat (first | refine blk_drewN ?_ _ | refine blk_drew ?_ | refine blk_alloc ?_ _)); exact BK226.out) hb); have n1_ := Aside0.mk (below_step (by repeat (first | (with_reducible first | exact HB.out | apply below_alloc | apply pw_below_drewN | apply below_drew1 | refine below_set ?_ GE226.out) | exact HB.out)) hb); clear BK226; clear HB; have BK226 := n0_; have HB := n1_; clear n0_ n1_; (try clear hb); (try clear hb2); (try clear hk); (try clear hi)) | (go_at_call 27; (with_reducible refine (hoggetlaw04_order.calls kj2 (⟨#[49, 46, 48, 46, 48, 45]⟩ : ByteArray) (⟨#[49, 46, 48, 46, 48]⟩ : ByteArray) t237 _ A40.out (by first | exact hLD | exact LD.below hLD (by repeat (first | exact HB.out | exact Below.refl _ _ | exact Aside0.out (by assumption) | apply below_alloc | apply pw_below_drewN | apply below_drew1 | refine below_set ?_ ?_)))).mono ?_); rintro e w55 ⟨rfl, hb⟩; have n0_ := Aside0.mk (blk_below (g := gb226) (o := .cells #[.int .i64 t221, .int .i64 t222, .int .i64 t223, .string t224] 23 (0, 0)) (by (with_reducible repeat (first | refine blk_drewN ?_ _ | refine blk_drew ?_ | refine blk_alloc ?_ _)); exact BK226.out) hb); have n1_ := Aside0.mk (below_step (by repeat (first | (with_reducible first | exact HB.out | apply below_alloc | apply pw_below_drewN | apply below_drew1 | refine below_set ?_ GE226.out) | exact HB.out)) hb); clear BK226; clear HB; have BK226 := n0_; have HB := n1_; clear n0_ n1_; (try clear hb); (try clear hb2); (try clear hk); (try clear hi)))
                    go_ret
                    exact ⟨by first | rfl | (simp [errW_none, errW_some] <;> rfl) | (simp [*, errW_none, errW_some] <;> rfl), by repeat (first | (with_reducible first | exact HB.out | apply below_alloc | apply pw_below_drewN | apply below_drew1 | refine below_set ?_ GE226.out) | exact HB.out)⟩
                · rw [if_neg c39] at H
                  have c39b0 : (t236 == 7) = false := beq_eq_false_iff_ne.mpr c39
                  have c39b1 : (t236 != 7) = true := bne_iff_ne.mpr c39
                  obtain rfl := Option.some.inj H
                  go_wp2_with (first | (go_at_call 27; (with_reducible refine (hoggetlaw04_order.calls kj2 (⟨#[49, 46, 48, 46, 48, 45, 50]⟩ : ByteArray) (⟨#[49, 46, 48, 46, 48, 45, 97]⟩ : ByteArray) t232 _ A30.out (by first | exact hLD | exact LD.below hLD (by repeat (first | exact HB.out | exact Below.refl _ _ | exact Aside0.out (by assumption) | apply below_alloc | apply pw_below_drewN | apply below_drew1 | refine below_set ?_ ?_)))).mono ?_); rintro e w56 ⟨rfl, hb⟩; have n0_ := Aside0.mk (blk_below (g := gb226) (o := .cells #[.int .i64 t221, .int .i64 t222, .int .i64 t223, .string t224] 23 (0, 0)) (by (with_reducible repeat (first | refine blk_drewN ?_ _ | refine blk_drew ?_ | refine blk_alloc ?_ _)); exact BK226.out) hb); have n1_ := Aside0.mk (below_step (by repeat (first | (with_reducible first | exact HB.out | apply below_alloc | apply pw_below_drewN | apply below_drew1 | refine below_set ?_ GE226.out) | exact HB.out)) hb); clear BK226; clear HB; have BK226 := n0_; have HB := n1_; clear n0_ n1_; (try clear hb); (try clear hb2); (try clear hk); (try clear hi)) | (go_at_call 27; (with_reducible refine (hoggetlaw04_order.calls kj2 (⟨#[49, 46, 48, 46, 48, 45, 97]⟩ : ByteArray) (⟨#[49, 46, 48, 46, 48, 45, 97, 46, 48]⟩ : ByteArray) t233 _ A32.out (by first | exact hLD | exact LD.below hLD (by repeat (first | exact HB.out | exact Below.refl _ _ | exact Aside0.out (by assumption) | apply below_alloc | apply pw_below_drewN | apply below_drew1 | refine below_set ?_ ?_)))).mono ?_); rintro e w57 ⟨rfl, hb⟩; have n0_ := Aside0.mk (blk_below (g := gb226) (o := .cells #[.int .i64 t221, .int .i64 t222, .int .i64 t223, .string t224] 23 (0, 0)) (by (with_reducible repeat (first | refine blk_drewN ?_ _ | refine blk_drew ?_ | refine blk_alloc ?_ _)); exact BK226.out) hb); have n1_ := Aside0.mk (below_step (by repeat (first | (with_reducible first | exact HB.out | apply below_alloc | apply pw_below_drewN | apply below_drew1 | refine below_set ?_ GE226.out) | exact HB.out)) hb); clear BK226; clear HB; have BK226 := n0_; have HB := n1_; clear n0_ n1_; (try clear hb); (try clear hb2); (try clear hk); (try clear hi)) | (go_at_call 27; (with_reducible refine (hoggetlaw04_order.calls kj2 (⟨#[48, 49, 46, 48, 46, 48]⟩ : ByteArray) (⟨#[49, 46, 48, 46, 48]⟩ : ByteArray) t234 _ A34.out (by first | exact hLD | exact LD.below hLD (by repeat (first | exact HB.out | exact Below.refl _ _ | exact Aside0.out (by assumption) | apply below_alloc | apply pw_below_drewN | apply below_drew1 | refine below_set ?_ ?_)))).mono ?_); rintro e w58 ⟨rfl, hb⟩; have n0_ := Aside0.mk (blk_below (g := gb226) (o := .cells #[.int .i64 t221, .int .i64 t222, .int .i64 t223, .string t224] 23 (0, 0)) (by (with_reducible repeat (first | refine blk_drewN ?_ _ | refine blk_drew ?_ | refine blk_alloc ?_ _)); exact BK226.out) hb); have n1_ := Aside0.mk (below_step (by repeat (first | (with_reducible first | exact HB.out | apply below_alloc | apply pw_below_drewN | apply below_drew1 | refine below_set ?_ GE226.out) | exact HB.out)) hb); clear BK226; clear HB; have BK226 := n0_; have HB := n1_; clear n0_ n1_; (try clear hb); (try clear hb2); (try clear hk); (try clear hi)) | (go_at_call 27; (with_reducible refine (hoggetlaw04_order.calls kj2 (⟨#[49, 46, 48]⟩ : ByteArray) (⟨#[49, 46, 48, 46, 48]⟩ : ByteArray) t235 _ A36.out (by first | exact hLD | exact LD.below hLD (by repeat (first | exact HB.out | exact Below.refl _ _ | exact Aside0.out (by assumption) | apply below_alloc | apply pw_below_drewN | apply below_drew1 | refine below_set ?_ ?_)))).mono ?_); rintro e w59 ⟨rfl, hb⟩; have n0_ := Aside0.mk (blk_below (g := gb226) (o := .cells #[.int .i64 t221, .int .i64 t222, .int .i64 t223, .string t224] 23 (0, 0)) (by (with_reducible repeat (first | refine blk_drewN ?_ _ | refine blk_drew ?_ | refine blk_alloc ?_ _)); exact BK226.out) hb); have n1_ := Aside0.mk (below_step (by repeat (first | (with_reducible first | exact HB.out | apply below_alloc | apply pw_below_drewN | apply below_drew1 | refine below_set ?_ GE226.out) | exact HB.out)) hb); clear BK226; clear HB; have BK226 := n0_; have HB := n1_; clear n0_ n1_; (try clear hb); (try clear hb2); (try clear hk); (try clear hi)) | (go_at_call 27; (with_reducible refine (hoggetlaw04_order.calls kj2 (⟨#[49, 46, 48, 46, 48, 45, 48, 49]⟩ : ByteArray) (⟨#[49, 46, 48, 46, 48]⟩ : ByteArray) t236 _ A38.out (by first | exact hLD | exact LD.below hLD (by repeat (first | exact HB.out | exact Below.refl _ _ | exact Aside0.out (by assumption) | apply below_alloc | apply pw_below_drewN | apply below_drew1 | refine below_set ?_ ?_)))).mono ?_); rintro e w60 ⟨rfl, hb⟩; have n0_ := Aside0.mk (blk_below (g := gb226) (o := .cells #[.int .i64 t221, .int .i64 t222, .int .i64 t223, .string t224] 23 (0, 0)) (by (with_reducible repeat (first | refine blk_drewN ?_ _ | refine blk_drew ?_ | refine blk_alloc ?_ _)); exact BK226.out) hb); have n1_ := Aside0.mk (below_step (by repeat (first | (with_reducible first | exact HB.out | apply below_alloc | apply pw_below_drewN | apply below_drew1 | refine below_set ?_ GE226.out) | exact HB.out)) hb); clear BK226; clear HB; have BK226 := n0_; have HB := n1_; clear n0_ n1_; (try clear hb); (try clear hb2); (try clear hk); (try clear hi)))
                  go_ret
                  exact ⟨by first | rfl | (simp [errW_none, errW_some] <;> rfl) | (simp [*, errW_none, errW_some] <;> rfl), by repeat (first | (with_reducible first | exact HB.out | apply below_alloc | apply pw_below_drewN | apply below_drew1 | refine below_set ?_ GE226.out) | exact HB.out)⟩
              · rw [if_neg c37] at H
                have c37b0 : (t235 == 7) = false := beq_eq_false_iff_ne.mpr c37
                have c37b1 : (t235 != 7) = true := bne_iff_ne.mpr c37
                obtain rfl := Option.some.inj H
                go_wp2_with (first | (go_at_call 27; (with_reducible refine (hoggetlaw04_order.calls kj2 (⟨#[49, 46, 48, 46, 48, 45, 50]⟩ : ByteArray) (⟨#[49, 46, 48, 46, 48, 45, 97]⟩ : ByteArray) t232 _ A30.out (by first | exact hLD | exact LD.below hLD (by repeat (first | exact HB.out | exact Below.refl _ _ | exact Aside0.out (by assumption) | apply below_alloc | apply pw_below_drewN | apply below_drew1 | refine below_set ?_ ?_)))).mono ?_); rintro e w61 ⟨rfl, hb⟩; have n0_ := Aside0.mk (blk_below (g := gb226) (o := .cells #[.int .i64 t221, .int .i64 t222, .int .i64 t223, .string t224] 23 (0, 0)) (by (with_reducible repeat (first | refine blk_drewN ?_ _ | refine blk_drew ?_ | refine blk_alloc ?_ _)); exact BK226.out) hb); have n1_ := Aside0.mk (below_step (by repeat (first | (with_reducible first | exact HB.out | apply below_alloc | apply pw_below_drewN | apply below_drew1 | refine below_set ?_ GE226.out) | exact HB.out)) hb); clear BK226; clear HB; have BK226 := n0_; have HB := n1_; clear n0_ n1_; (try clear hb); (try clear hb2); (try clear hk); (try clear hi)) | (go_at_call 27; (with_reducible refine (hoggetlaw04_order.calls kj2 (⟨#[49, 46, 48, 46, 48, 45, 97]⟩ : ByteArray) (⟨#[49, 46, 48, 46, 48, 45, 97, 46, 48]⟩ : ByteArray) t233 _ A32.out (by first | exact hLD | exact LD.below hLD (by repeat (first | exact HB.out | exact Below.refl _ _ | exact Aside0.out (by assumption) | apply below_alloc | apply pw_below_drewN | apply below_drew1 | refine below_set ?_ ?_)))).mono ?_); rintro e w62 ⟨rfl, hb⟩; have n0_ := Aside0.mk (blk_below (g := gb226) (o := .cells #[.int .i64 t221, .int .i64 t222, .int .i64 t223, .string t224] 23 (0, 0)) (by (with_reducible repeat (first | refine blk_drewN ?_ _ | refine blk_drew ?_ | refine blk_alloc ?_ _)); exact BK226.out) hb); have n1_ := Aside0.mk (below_step (by repeat (first | (with_reducible first | exact HB.out | apply below_alloc | apply pw_below_drewN | apply below_drew1 | refine below_set ?_ GE226.out) | exact HB.out)) hb); clear BK226; clear HB; have BK226 := n0_; have HB := n1_; clear n0_ n1_; (try clear hb); (try clear hb2); (try clear hk); (try clear hi)) | (go_at_call 27; (with_reducible refine (hoggetlaw04_order.calls kj2 (⟨#[48, 49, 46, 48, 46, 48]⟩ : ByteArray) (⟨#[49, 46, 48, 46, 48]⟩ : ByteArray) t234 _ A34.out (by first | exact hLD | exact LD.below hLD (by repeat (first | exact HB.out | exact Below.refl _ _ | exact Aside0.out (by assumption) | apply below_alloc | apply pw_below_drewN | apply below_drew1 | refine below_set ?_ ?_)))).mono ?_); rintro e w63 ⟨rfl, hb⟩; have n0_ := Aside0.mk (blk_below (g := gb226) (o := .cells #[.int .i64 t221, .int .i64 t222, .int .i64 t223, .string t224] 23 (0, 0)) (by (with_reducible repeat (first | refine blk_drewN ?_ _ | refine blk_drew ?_ | refine blk_alloc ?_ _)); exact BK226.out) hb); have n1_ := Aside0.mk (below_step (by repeat (first | (with_reducible first | exact HB.out | apply below_alloc | apply pw_below_drewN | apply below_drew1 | refine below_set ?_ GE226.out) | exact HB.out)) hb); clear BK226; clear HB; have BK226 := n0_; have HB := n1_; clear n0_ n1_; (try clear hb); (try clear hb2); (try clear hk); (try clear hi)) | (go_at_call 27; (with_reducible refine (hoggetlaw04_order.calls kj2 (⟨#[49, 46, 48]⟩ : ByteArray) (⟨#[49, 46, 48, 46, 48]⟩ : ByteArray) t235 _ A36.out (by first | exact hLD | exact LD.below hLD (by repeat (first | exact HB.out | exact Below.refl _ _ | exact Aside0.out (by assumption) | apply below_alloc | apply pw_below_drewN | apply below_drew1 | refine below_set ?_ ?_)))).mono ?_); rintro e w64 ⟨rfl, hb⟩; have n0_ := Aside0.mk (blk_below (g := gb226) (o := .cells #[.int .i64 t221, .int .i64 t222, .int .i64 t223, .string t224] 23 (0, 0)) (by (with_reducible repeat (first | refine blk_drewN ?_ _ | refine blk_drew ?_ | refine blk_alloc ?_ _)); exact BK226.out) hb); have n1_ := Aside0.mk (below_step (by repeat (first | (with_reducible first | exact HB.out | apply below_alloc | apply pw_below_drewN | apply below_drew1 | refine below_set ?_ GE226.out) | exact HB.out)) hb); clear BK226; clear HB; have BK226 := n0_; have HB := n1_; clear n0_ n1_; (try clear hb); (try clear hb2); (try clear hk); (try clear hi)))
                go_ret
                exact ⟨by first | rfl | (simp [errW_none, errW_some] <;> rfl) | (simp [*, errW_none, errW_some] <;> rfl), by repeat (first | (with_reducible first | exact HB.out | apply below_alloc | apply pw_below_drewN | apply below_drew1 | refine below_set ?_ GE226.out) | exact HB.out)⟩
            · rw [if_neg c35] at H
              have c35b0 : (t234 == 7) = false := beq_eq_false_iff_ne.mpr c35
              have c35b1 : (t234 != 7) = true := bne_iff_ne.mpr c35
              obtain rfl := Option.some.inj H
              go_wp2_with (first | (go_at_call 27; (with_reducible refine (hoggetlaw04_order.calls kj2 (⟨#[49, 46, 48, 46, 48, 45, 50]⟩ : ByteArray) (⟨#[49, 46, 48, 46, 48, 45, 97]⟩ : ByteArray) t232 _ A30.out (by first | exact hLD | exact LD.below hLD (by repeat (first | exact HB.out | exact Below.refl _ _ | exact Aside0.out (by assumption) | apply below_alloc | apply pw_below_drewN | apply below_drew1 | refine below_set ?_ ?_)))).mono ?_); rintro e w65 ⟨rfl, hb⟩; have n0_ := Aside0.mk (blk_below (g := gb226) (o := .cells #[.int .i64 t221, .int .i64 t222, .int .i64 t223, .string t224] 23 (0, 0)) (by (with_reducible repeat (first | refine blk_drewN ?_ _ | refine blk_drew ?_ | refine blk_alloc ?_ _)); exact BK226.out) hb); have n1_ := Aside0.mk (below_step (by repeat (first | (with_reducible first | exact HB.out | apply below_alloc | apply pw_below_drewN | apply below_drew1 | refine below_set ?_ GE226.out) | exact HB.out)) hb); clear BK226; clear HB; have BK226 := n0_; have HB := n1_; clear n0_ n1_; (try clear hb); (try clear hb2); (try clear hk); (try clear hi)) | (go_at_call 27; (with_reducible refine (hoggetlaw04_order.calls kj2 (⟨#[49, 46, 48, 46, 48, 45, 97]⟩ : ByteArray) (⟨#[49, 46, 48, 46, 48, 45, 97, 46, 48]⟩ : ByteArray) t233 _ A32.out (by first | exact hLD | exact LD.below hLD (by repeat (first | exact HB.out | exact Below.refl _ _ | exact Aside0.out (by assumption) | apply below_alloc | apply pw_below_drewN | apply below_drew1 | refine below_set ?_ ?_)))).mono ?_); rintro e w66 ⟨rfl, hb⟩; have n0_ := Aside0.mk (blk_below (g := gb226) (o := .cells #[.int .i64 t221, .int .i64 t222, .int .i64 t223, .string t224] 23 (0, 0)) (by (with_reducible repeat (first | refine blk_drewN ?_ _ | refine blk_drew ?_ | refine blk_alloc ?_ _)); exact BK226.out) hb); have n1_ := Aside0.mk (below_step (by repeat (first | (with_reducible first | exact HB.out | apply below_alloc | apply pw_below_drewN | apply below_drew1 | refine below_set ?_ GE226.out) | exact HB.out)) hb); clear BK226; clear HB; have BK226 := n0_; have HB := n1_; clear n0_ n1_; (try clear hb); (try clear hb2); (try clear hk); (try clear hi)) | (go_at_call 27; (with_reducible refine (hoggetlaw04_order.calls kj2 (⟨#[48, 49, 46, 48, 46, 48]⟩ : ByteArray) (⟨#[49, 46, 48, 46, 48]⟩ : ByteArray) t234 _ A34.out (by first | exact hLD | exact LD.below hLD (by repeat (first | exact HB.out | exact Below.refl _ _ | exact Aside0.out (by assumption) | apply below_alloc | apply pw_below_drewN | apply below_drew1 | refine below_set ?_ ?_)))).mono ?_); rintro e w67 ⟨rfl, hb⟩; have n0_ := Aside0.mk (blk_below (g := gb226) (o := .cells #[.int .i64 t221, .int .i64 t222, .int .i64 t223, .string t224] 23 (0, 0)) (by (with_reducible repeat (first | refine blk_drewN ?_ _ | refine blk_drew ?_ | refine blk_alloc ?_ _)); exact BK226.out) hb); have n1_ := Aside0.mk (below_step (by repeat (first | (with_reducible first | exact HB.out | apply below_alloc | apply pw_below_drewN | apply below_drew1 | refine below_set ?_ GE226.out) | exact HB.out)) hb); clear BK226; clear HB; have BK226 := n0_; have HB := n1_; clear n0_ n1_; (try clear hb); (try clear hb2); (try clear hk); (try clear hi)))
              go_ret
              exact ⟨by first | rfl | (simp [errW_none, errW_some] <;> rfl) | (simp [*, errW_none, errW_some] <;> rfl), by repeat (first | (with_reducible first | exact HB.out | apply below_alloc | apply pw_below_drewN | apply below_drew1 | refine below_set ?_ GE226.out) | exact HB.out)⟩
          · rw [if_neg c33] at H
            have c33b0 : (t233 == (-1)) = false := beq_eq_false_iff_ne.mpr c33
            have c33b1 : (t233 != (-1)) = true := bne_iff_ne.mpr c33
            obtain rfl := Option.some.inj H
            go_wp2_with (first | (go_at_call 27; (with_reducible refine (hoggetlaw04_order.calls kj2 (⟨#[49, 46, 48, 46, 48, 45, 50]⟩ : ByteArray) (⟨#[49, 46, 48, 46, 48, 45, 97]⟩ : ByteArray) t232 _ A30.out (by first | exact hLD | exact LD.below hLD (by repeat (first | exact HB.out | exact Below.refl _ _ | exact Aside0.out (by assumption) | apply below_alloc | apply pw_below_drewN | apply below_drew1 | refine below_set ?_ ?_)))).mono ?_); rintro e w68 ⟨rfl, hb⟩; have n0_ := Aside0.mk (blk_below (g := gb226) (o := .cells #[.int .i64 t221, .int .i64 t222, .int .i64 t223, .string t224] 23 (0, 0)) (by (with_reducible repeat (first | refine blk_drewN ?_ _ | refine blk_drew ?_ | refine blk_alloc ?_ _)); exact BK226.out) hb); have n1_ := Aside0.mk (below_step (by repeat (first | (with_reducible first | exact HB.out | apply below_alloc | apply pw_below_drewN | apply below_drew1 | refine below_set ?_ GE226.out) | exact HB.out)) hb); clear BK226; clear HB; have BK226 := n0_; have HB := n1_; clear n0_ n1_; (try clear hb); (try clear hb2); (try clear hk); (try clear hi)) | (go_at_call 27; (with_reducible refine (hoggetlaw04_order.calls kj2 (⟨#[49, 46, 48, 46, 48, 45, 97]⟩ : ByteArray) (⟨#[49, 46, 48, 46, 48, 45, 97, 46, 48]⟩ : ByteArray) t233 _ A32.out (by first | exact hLD | exact LD.below hLD (by repeat (first | exact HB.out | exact Below.refl _ _ | exact Aside0.out (by assumption) | apply below_alloc | apply pw_below_drewN | apply below_drew1 | refine below_set ?_ ?_)))).mono ?_); rintro e w69 ⟨rfl, hb⟩; have n0_ := Aside0.mk (blk_below (g := gb226) (o := .cells #[.int .i64 t221, .int .i64 t222, .int .i64 t223, .string t224] 23 (0, 0)) (by (with_reducible repeat (first | refine blk_drewN ?_ _ | refine blk_drew ?_ | refine blk_alloc ?_ _)); exact BK226.out) hb); have n1_ := Aside0.mk (below_step (by repeat (first | (with_reducible first | exact HB.out | apply below_alloc | apply pw_below_drewN | apply below_drew1 | refine below_set ?_ GE226.out) | exact HB.out)) hb); clear BK226; clear HB; have BK226 := n0_; have HB := n1_; clear n0_ n1_; (try clear hb); (try clear hb2); (try clear hk); (try clear hi)))
            go_ret
            exact ⟨by first | rfl | (simp [errW_none, errW_some] <;> rfl) | (simp [*, errW_none, errW_some] <;> rfl), by repeat (first | (with_reducible first | exact HB.out | apply below_alloc | apply pw_below_drewN | apply below_drew1 | refine below_set ?_ GE226.out) | exact HB.out)⟩
        · rw [if_neg c31] at H
          have c31b0 : (t232 == (-1)) = false := beq_eq_false_iff_ne.mpr c31
          have c31b1 : (t232 != (-1)) = true := bne_iff_ne.mpr c31
          obtain rfl := Option.some.inj H
          go_wp2_with (first | (go_at_call 27; (with_reducible refine (hoggetlaw04_order.calls kj2 (⟨#[49, 46, 48, 46, 48, 45, 50]⟩ : ByteArray) (⟨#[49, 46, 48, 46, 48, 45, 97]⟩ : ByteArray) t232 _ A30.out (by first | exact hLD | exact LD.below hLD (by repeat (first | exact HB.out | exact Below.refl _ _ | exact Aside0.out (by assumption) | apply below_alloc | apply pw_below_drewN | apply below_drew1 | refine below_set ?_ ?_)))).mono ?_); rintro e w70 ⟨rfl, hb⟩; have n0_ := Aside0.mk (blk_below (g := gb226) (o := .cells #[.int .i64 t221, .int .i64 t222, .int .i64 t223, .string t224] 23 (0, 0)) (by (with_reducible repeat (first | refine blk_drewN ?_ _ | refine blk_drew ?_ | refine blk_alloc ?_ _)); exact BK226.out) hb); have n1_ := Aside0.mk (below_step (by repeat (first | (with_reducible first | exact HB.out | apply below_alloc | apply pw_below_drewN | apply below_drew1 | refine below_set ?_ GE226.out) | exact HB.out)) hb); clear BK226; clear HB; have BK226 := n0_; have HB := n1_; clear n0_ n1_; (try clear hb); (try clear hb2); (try clear hk); (try clear hi)))
          go_ret
          exact ⟨by first | rfl | (simp [errW_none, errW_some] <;> rfl) | (simp [*, errW_none, errW_some] <;> rfl), by repeat (first | (with_reducible first | exact HB.out | apply below_alloc | apply pw_below_drewN | apply below_drew1 | refine below_set ?_ GE226.out) | exact HB.out)⟩
      · replace c29 := Bool.eq_false_iff.mpr c29
        subst c29
        have H1 : (some false) = some r := by rw [if_neg (show ¬ (false = true) by decide)] at H; exact H
        clear H
        have H := H1
        clear H1
        obtain rfl := Option.some.inj H
        go_wp2
        go_ret
        exact ⟨by first | rfl | (simp [errW_none, errW_some] <;> rfl) | (simp [*, errW_none, errW_some] <;> rfl), by repeat (first | (with_reducible first | exact HB.out | apply below_alloc | apply pw_below_drewN | apply below_drew1 | refine below_set ?_ GE226.out) | exact HB.out)⟩
end Go.Proofs.YtijooffpjfhidaaDoor.G
end
section
namespace Go.Proofs.YtijooffpjfhidaaDoor.G
open Go.RowKit Go.Proofs.YtijooffpjfhidaaDoorW.PrintWords Go.Proofs.YtijooffpjfhidaaDoorW.PrintLast Go.Proofs.YtijooffpjfhidaaDoorW.PrintMore
set_option linter.unusedVariables false
def hoggetlaw04_VersionPlain.f (k : Nat) (a0_0 : Int) (a0_1 : Int) (a0_2 : Int) (a0_3 : ByteArray) (a1_0 : Int) (a1_1 : Int) (a1_2 : Int) (a1_3 : ByteArray) : Option Bool :=
  (hoggetlaw04_large.f k [(⟨a0_0, a0_1, a0_2, a0_3⟩ : S23), (⟨a1_0, a1_1, a1_2, a1_3⟩ : S23)]).bind fun L => if L = true then some true else
  (version_Print.f k a0_0 a0_1 a0_2 a0_3).bind fun pa => (version_Print.f k a1_0 a1_1 a1_2 a1_3).bind fun pb => (hoggetlaw04_versions.f k).bind fun vs =>
  if vs = false then none else if pa.2 = false then some true else if pb.2 = false then some true else
  (if a0_3.toList = [] then some (-1) else version_Compare.f k a0_0 a0_1 a0_2 a0_3 a0_0 a0_1 a0_2 ⟨#[]⟩).bind fun x => (version_Compare.f k a0_0 a0_1 a0_2 a0_3 a1_0 a1_1 a1_2 a1_3).bind fun y =>
  if x = -1 then (if a0_0 ≤ a1_0 then (if a0_0 = a1_0 then (if a1_1 ≤ a0_1 then some true else if y = -1 then some true else none) else some true) else if y = 1 then some true else none) else none
theorem hoggetlaw04_VersionPlain.row (W : World) (b : Nat) (hb : b = W.heap.size) (a0_0 : Int) (a0_1 : Int) (a0_2 : Int) (a0_3 : ByteArray) (a1_0 : Int) (a1_1 : Int) (a1_2 : Int) (a1_3 : ByteArray) :
    Kd.C k23 (W.alloc (.cells #[.int .i64 a0_0, .int .i64 a0_1, .int .i64 a0_2, .string a0_3, .int .i64 a1_0, .int .i64 a1_1, .int .i64 a1_2, .string a1_3] 23)) (some ⟨b, 0, none⟩) [(⟨a0_0, a0_1, a0_2, a0_3⟩ : S23), (⟨a1_0, a1_1, a1_2, a1_3⟩ : S23)].length [(⟨a0_0, a0_1, a0_2, a0_3⟩ : S23), (⟨a1_0, a1_1, a1_2, a1_3⟩ : S23)] := by
  subst hb
  have hadd : ∀ n, (⟨W.heap.size, 0, none⟩ : Addr).add n = ⟨W.heap.size, n, none⟩ := fun n => by unfold Addr.add; split <;> simp_all
  refine ⟨rfl, by simp, fun _ => ⟨_, rfl, fun j p hp => ?_⟩⟩
  match j, hp with
  | 0, hp =>
    obtain rfl := Option.some.inj hp
    refine ⟨[.int .i64 a0_0, .int .i64 a0_1, .int .i64 a0_2, .string a0_3], rfl, ⟨[.int .i64 a0_0], _, rfl, rfl, [.int .i64 a0_1], _, rfl, rfl, [.int .i64 a0_2], _, rfl, rfl, rfl⟩, fun i u hu => ?_⟩
    rw [hadd, World.cell?_alloc_at _ _ _ _ (by simp)]
    match i, hu with
    | 0, hu => simpa using hu
    | 1, hu => simpa using hu
    | 2, hu => simpa using hu
    | 3, hu => simpa using hu
  | 1, hp =>
    obtain rfl := Option.some.inj hp
    refine ⟨[.int .i64 a1_0, .int .i64 a1_1, .int .i64 a1_2, .string a1_3], rfl, ⟨[.int .i64 a1_0], _, rfl, rfl, [.int .i64 a1_1], _, rfl, rfl, [.int .i64 a1_2], _, rfl, rfl, rfl⟩, fun i u hu => ?_⟩
    rw [hadd, World.cell?_alloc_at _ _ _ _ (by simp), show (1 : Nat) * k23.sz + i = 4 + i from rfl]
    match i, hu with
    | 0, hu => simpa using hu
    | 1, hu => simpa using hu
    | 2, hu => simpa using hu
    | 3, hu => simpa using hu
theorem hoggetlaw04_VersionPlain.keep (w : World) (o1 o2 o3 : Obj) (W : World) (hb : Below (((w.alloc o1).alloc o2).alloc o3).heap.size (((w.alloc o1).alloc o2).alloc o3) W) :
    W.heap[w.heap.size]? = some o1 ∧ W.heap[w.heap.size + 1]? = some o2 ∧ Below w.heap.size w W := by
  have h0 : Below w.heap.size w (((w.alloc o1).alloc o2).alloc o3) := (((Below.refl _ w).alloc (Nat.le_refl _) _).alloc (by simp) _).alloc (by simp; omega) _
  refine ⟨?_, ?_, h0.trans (hb.mono (by simp; omega))⟩
  · rw [hb.block _ (by simp; omega)]
    exact (Below.heap_alloc _ _ _ (by simp; omega)).trans ((Below.heap_alloc _ _ _ (by simp)).trans (World.alloc_heap_new w _))
  · rw [hb.block _ (by simp)]
    have := World.alloc_heap_new (w.alloc o1) o2
    rw [World.size_alloc] at this
    exact (Below.heap_alloc _ _ _ (by simp)).trans this
section
open Lib
set_option maxRecDepth 100000 in
set_option maxHeartbeats 8000000 in
theorem hoggetlaw04_VersionPlain.calls (k : Nat) (a0_0 : Int) (a0_1 : Int) (a0_2 : Int) (a0_3 : ByteArray) (a1_0 : Int) (a1_1 : Int) (a1_2 : Int) (a1_3 : ByteArray) (r : Bool) (w : World) (h : hoggetlaw04_VersionPlain.f k a0_0 a0_1 a0_2 a0_3 a1_0 a1_1 a1_2 a1_3 = some r) (hLD : LD w) :
    Calls Tryd.prog 7 #[.agg #[.int .i64 a0_0, .int .i64 a0_1, .int .i64 a0_2, .string a0_3], .agg #[.int .i64 a1_0, .int .i64 a1_1, .int .i64 a1_2, .string a1_3]] w fun e w' => e = .returned (.bool r) ∧ Below w.heap.size w w' := by
  unfold hoggetlaw04_VersionPlain.f at h
  obtain ⟨L, hL, h⟩ := Option.bind_eq_some_iff.1 h
  have hu := Tryd.underlying23
  have CL : Hid (∀ (W : World) (b : Nat), b = W.heap.size → Calls Tryd.prog 9 #[.slice (some ⟨b, 0, none⟩) 2 2] (W.alloc (.cells #[.int .i64 a0_0, .int .i64 a0_1, .int .i64 a0_2, .string a0_3, .int .i64 a1_0, .int .i64 a1_1, .int .i64 a1_2, .string a1_3] 23)) fun e w' => e = .returned (.bool L) ∧ Below (W.alloc (.cells #[.int .i64 a0_0, .int .i64 a0_1, .int .i64 a0_2, .string a0_3, .int .i64 a1_0, .int .i64 a1_1, .int .i64 a1_2, .string a1_3] 23)).heap.size (W.alloc (.cells #[.int .i64 a0_0, .int .i64 a0_1, .int .i64 a0_2, .string a0_3, .int .i64 a1_0, .int .i64 a1_1, .int .i64 a1_2, .string a1_3] 23)) w') :=
    Lib.hid (fun W b hb => by
      have h1 := hoggetlaw04_large.calls k (some ⟨b, 0, none⟩) 2 [(⟨a0_0, a0_1, a0_2, a0_3⟩ : S23), (⟨a1_0, a1_1, a1_2, a1_3⟩ : S23)] L (W.alloc (.cells #[.int .i64 a0_0, .int .i64 a0_1, .int .i64 a0_2, .string a0_3, .int .i64 a1_0, .int .i64 a1_1, .int .i64 a1_2, .string a1_3] 23)) (hoggetlaw04_VersionPlain.row W b hb a0_0 a0_1 a0_2 a0_3 a1_0 a1_1 a1_2 a1_3) (by simp) hL
      rw [show [(⟨a0_0, a0_1, a0_2, a0_3⟩ : S23), (⟨a1_0, a1_1, a1_2, a1_3⟩ : S23)].length = 2 from rfl] at h1
      exact h1)
  have HK : Hid (∀ W, Below (((w.alloc (.cells #[.int .i64 a0_0, .int .i64 a0_1, .int .i64 a0_2, .string a0_3] 23)).alloc (.cells #[.int .i64 a1_0, .int .i64 a1_1, .int .i64 a1_2, .string a1_3] 23)).alloc (.cells #[.int .i64 a0_0, .int .i64 a0_1, .int .i64 a0_2, .string a0_3, .int .i64 a1_0, .int .i64 a1_1, .int .i64 a1_2, .string a1_3] 23)).heap.size (((w.alloc (.cells #[.int .i64 a0_0, .int .i64 a0_1, .int .i64 a0_2, .string a0_3] 23)).alloc (.cells #[.int .i64 a1_0, .int .i64 a1_1, .int .i64 a1_2, .string a1_3] 23)).alloc (.cells #[.int .i64 a0_0, .int .i64 a0_1, .int .i64 a0_2, .string a0_3, .int .i64 a1_0, .int .i64 a1_1, .int .i64 a1_2, .string a1_3] 23)) W →
      W.heap[w.heap.size]? = some (.cells #[.int .i64 a0_0, .int .i64 a0_1, .int .i64 a0_2, .string a0_3] 23 (0, 0)) ∧ W.heap[w.heap.size + 1]? = some (.cells #[.int .i64 a1_0, .int .i64 a1_1, .int .i64 a1_2, .string a1_3] 23 (0, 0)) ∧ Below w.heap.size w W ∧ LD W) := Lib.hid (fun W hb => have h := hoggetlaw04_VersionPlain.keep w _ _ _ W hb; ⟨h.1, h.2.1, h.2.2, hLD.below h.2.2⟩)
  clear hL hLD
  cases L with
  | true =>
    obtain rfl : true = r := by simpa using h
    clear h
    go_enter Tryd.func7, Tryd.ntmps7
    go_wp2_with (first | (go_at_call 9; refine (CL.out _ _ ?hb).mono ?_; (case hb => simp); rintro e w' ⟨rfl, hb⟩; have HBc := Lib.hid hb; clear hb; obtain ⟨ka, kb, hBc, hLc⟩ := HK.out _ HBc.out; obtain ⟨p0, p1, p2, p3, _, _, _, _⟩ := version_Parse.cells ka; obtain ⟨q0, q1, q2, q3, _, _, _, _⟩ := version_Parse.cells kb; clear ka kb))
    go_ret
    exact ⟨rfl, hBc⟩
  | false =>
    rw [if_neg (by decide)] at h
    obtain ⟨⟨ta, oa⟩, hpa, h⟩ := Option.bind_eq_some_iff.1 h
    obtain ⟨⟨tb, ob⟩, hpb, h⟩ := Option.bind_eq_some_iff.1 h
    obtain ⟨vs, hvs, h⟩ := Option.bind_eq_some_iff.1 h
    have CPA := Lib.hid (fun W hW => version_Print.calls k a0_0 a0_1 a0_2 a0_3 ta oa W hpa hW)
    have CPB := Lib.hid (fun W hW => version_Print.calls k a1_0 a1_1 a1_2 a1_3 tb ob W hpb hW)
    cases vs with
    | false => simp at h
    | true =>
    have CV := Lib.hid (fun W hW => hoggetlaw04_versions.calls k true W hvs hW)
    rw [if_neg (by decide)] at h
    clear hpa hpb hvs
    cases oa with
    | false =>
      obtain rfl : true = r := by simpa using h
      clear h
      go_enter Tryd.func7, Tryd.ntmps7
      go_wp2_with (first | (go_at_call 9; refine (CL.out _ _ ?hb).mono ?_; (case hb => simp); rintro e w' ⟨rfl, hb⟩; have HBc := Lib.hid hb; clear hb; obtain ⟨ka, kb, hBc, hLc⟩ := HK.out _ HBc.out; obtain ⟨p0, p1, p2, p3, _, _, _, _⟩ := version_Parse.cells ka; obtain ⟨q0, q1, q2, q3, _, _, _, _⟩ := version_Parse.cells kb; clear ka kb) | (go_at_call 12; (with_reducible refine (CPA.out _ (by first | exact hLc | exact LD.below hLc ((Below.refl _ _).alloc (Nat.le_refl _) _))).mono ?_); rintro e w' ⟨rfl, hb⟩; have hbn := Lib.hid (by first | exact HBc.out.trans (hb.mono HBc.out.size) | exact (HBc.out.alloc HBc.out.size _).trans (hb.mono (Nat.le_trans HBc.out.size (by simp)))); clear HBc hLc hBc hb p0 p1 p2 p3 q0 q1 q2 q3; have HBc := hbn; clear hbn; obtain ⟨ka, kb, hBc, hLc⟩ := HK.out _ HBc.out; obtain ⟨p0, p1, p2, p3, _, _, _, _⟩ := version_Parse.cells ka; obtain ⟨q0, q1, q2, q3, _, _, _, _⟩ := version_Parse.cells kb; clear ka kb) | (go_at_call 12; (with_reducible refine (CPB.out _ (by first | exact hLc | exact LD.below hLc ((Below.refl _ _).alloc (Nat.le_refl _) _))).mono ?_); rintro e w' ⟨rfl, hb⟩; have hbn := Lib.hid (by first | exact HBc.out.trans (hb.mono HBc.out.size) | exact (HBc.out.alloc HBc.out.size _).trans (hb.mono (Nat.le_trans HBc.out.size (by simp)))); clear HBc hLc hBc hb p0 p1 p2 p3 q0 q1 q2 q3; have HBc := hbn; clear hbn; obtain ⟨ka, kb, hBc, hLc⟩ := HK.out _ HBc.out; obtain ⟨p0, p1, p2, p3, _, _, _, _⟩ := version_Parse.cells ka; obtain ⟨q0, q1, q2, q3, _, _, _, _⟩ := version_Parse.cells kb; clear ka kb) | (go_at_call 14; (with_reducible refine (CV.out _ (by first | exact hLc | exact LD.below hLc ((Below.refl _ _).alloc (Nat.le_refl _) _))).mono ?_); rintro e w' ⟨rfl, hb⟩; have hbn := Lib.hid (by first | exact HBc.out.trans (hb.mono HBc.out.size) | exact (HBc.out.alloc HBc.out.size _).trans (hb.mono (Nat.le_trans HBc.out.size (by simp)))); clear HBc hLc hBc hb p0 p1 p2 p3 q0 q1 q2 q3; have HBc := hbn; clear hbn; obtain ⟨ka, kb, hBc, hLc⟩ := HK.out _ HBc.out; obtain ⟨p0, p1, p2, p3, _, _, _, _⟩ := version_Parse.cells ka; obtain ⟨q0, q1, q2, q3, _, _, _, _⟩ := version_Parse.cells kb; clear ka kb))
      go_ret
      exact ⟨rfl, hBc⟩
    | true =>
    simp only [Bool.true_eq_false, if_false] at h
    cases ob with
    | false =>
      obtain rfl : true = r := by simpa using h
      clear h
      go_enter Tryd.func7, Tryd.ntmps7
      go_wp2_with (first | (go_at_call 9; refine (CL.out _ _ ?hb).mono ?_; (case hb => simp); rintro e w' ⟨rfl, hb⟩; have HBc := Lib.hid hb; clear hb; obtain ⟨ka, kb, hBc, hLc⟩ := HK.out _ HBc.out; obtain ⟨p0, p1, p2, p3, _, _, _, _⟩ := version_Parse.cells ka; obtain ⟨q0, q1, q2, q3, _, _, _, _⟩ := version_Parse.cells kb; clear ka kb) | (go_at_call 12; (with_reducible refine (CPA.out _ (by first | exact hLc | exact LD.below hLc ((Below.refl _ _).alloc (Nat.le_refl _) _))).mono ?_); rintro e w' ⟨rfl, hb⟩; have hbn := Lib.hid (by first | exact HBc.out.trans (hb.mono HBc.out.size) | exact (HBc.out.alloc HBc.out.size _).trans (hb.mono (Nat.le_trans HBc.out.size (by simp)))); clear HBc hLc hBc hb p0 p1 p2 p3 q0 q1 q2 q3; have HBc := hbn; clear hbn; obtain ⟨ka, kb, hBc, hLc⟩ := HK.out _ HBc.out; obtain ⟨p0, p1, p2, p3, _, _, _, _⟩ := version_Parse.cells ka; obtain ⟨q0, q1, q2, q3, _, _, _, _⟩ := version_Parse.cells kb; clear ka kb) | (go_at_call 12; (with_reducible refine (CPB.out _ (by first | exact hLc | exact LD.below hLc ((Below.refl _ _).alloc (Nat.le_refl _) _))).mono ?_); rintro e w' ⟨rfl, hb⟩; have hbn := Lib.hid (by first | exact HBc.out.trans (hb.mono HBc.out.size) | exact (HBc.out.alloc HBc.out.size _).trans (hb.mono (Nat.le_trans HBc.out.size (by simp)))); clear HBc hLc hBc hb p0 p1 p2 p3 q0 q1 q2 q3; have HBc := hbn; clear hbn; obtain ⟨ka, kb, hBc, hLc⟩ := HK.out _ HBc.out; obtain ⟨p0, p1, p2, p3, _, _, _, _⟩ := version_Parse.cells ka; obtain ⟨q0, q1, q2, q3, _, _, _, _⟩ := version_Parse.cells kb; clear ka kb) | (go_at_call 14; (with_reducible refine (CV.out _ (by first | exact hLc | exact LD.below hLc ((Below.refl _ _).alloc (Nat.le_refl _) _))).mono ?_); rintro e w' ⟨rfl, hb⟩; have hbn := Lib.hid (by first | exact HBc.out.trans (hb.mono HBc.out.size) | exact (HBc.out.alloc HBc.out.size _).trans (hb.mono (Nat.le_trans HBc.out.size (by simp)))); clear HBc hLc hBc hb p0 p1 p2 p3 q0 q1 q2 q3; have HBc := hbn; clear hbn; obtain ⟨ka, kb, hBc, hLc⟩ := HK.out _ HBc.out; obtain ⟨p0, p1, p2, p3, _, _, _, _⟩ := version_Parse.cells ka; obtain ⟨q0, q1, q2, q3, _, _, _, _⟩ := version_Parse.cells kb; clear ka kb))
      go_ret
      exact ⟨rfl, hBc⟩
    | true =>
    simp only [Bool.true_eq_false, if_false] at h
    obtain ⟨x, hx, h⟩ := Option.bind_eq_some_iff.1 h
    obtain ⟨y, hy, h⟩ := Option.bind_eq_some_iff.1 h
    have CAB := Lib.hid (fun W hW => version_Compare.calls k a0_0 a0_1 a0_2 a0_3 a1_0 a1_1 a1_2 a1_3 y W hy hW)
    clear hy
    by_cases hx1 : x = -1
    · subst hx1
      rw [if_pos rfl] at h
      by_cases he : a0_3.toList = []
      · have c1 : (a0_3.toList != ([] : List UInt8)) = false := bne_eq_false_iff_eq.mpr he
        have c2 : a0_3.toList.isEmpty = true := by rw [he]; rfl
        clear hx
        by_cases h1 : a0_0 ≤ a1_0
        · have d1 : decide (a0_0 ≤ a1_0) = true := decide_eq_true h1
          rw [if_pos h1] at h
          by_cases h2 : a0_0 = a1_0
          · have d2 : (a0_0 != a1_0) = false := bne_eq_false_iff_eq.mpr h2
            rw [if_pos h2] at h
            by_cases h3 : a1_1 ≤ a0_1
            · have d3 : decide (a1_1 ≤ a0_1) = true := decide_eq_true h3
              rw [if_pos h3] at h
              obtain rfl := Option.some.inj h
              clear h h1 h2 h3 he
              go_enter Tryd.func7, Tryd.ntmps7
              go_wp2_with (first | (go_at_call 9; refine (CL.out _ _ ?hb).mono ?_; (case hb => simp); rintro e w' ⟨rfl, hb⟩; have HBc := Lib.hid hb; clear hb; obtain ⟨ka, kb, hBc, hLc⟩ := HK.out _ HBc.out; obtain ⟨p0, p1, p2, p3, _, _, _, _⟩ := version_Parse.cells ka; obtain ⟨q0, q1, q2, q3, _, _, _, _⟩ := version_Parse.cells kb; clear ka kb) | (go_at_call 12; (with_reducible refine (CPA.out _ (by first | exact hLc | exact LD.below hLc ((Below.refl _ _).alloc (Nat.le_refl _) _))).mono ?_); rintro e w' ⟨rfl, hb⟩; have hbn := Lib.hid (by first | exact HBc.out.trans (hb.mono HBc.out.size) | exact (HBc.out.alloc HBc.out.size _).trans (hb.mono (Nat.le_trans HBc.out.size (by simp)))); clear HBc hLc hBc hb p0 p1 p2 p3 q0 q1 q2 q3; have HBc := hbn; clear hbn; obtain ⟨ka, kb, hBc, hLc⟩ := HK.out _ HBc.out; obtain ⟨p0, p1, p2, p3, _, _, _, _⟩ := version_Parse.cells ka; obtain ⟨q0, q1, q2, q3, _, _, _, _⟩ := version_Parse.cells kb; clear ka kb) | (go_at_call 12; (with_reducible refine (CPB.out _ (by first | exact hLc | exact LD.below hLc ((Below.refl _ _).alloc (Nat.le_refl _) _))).mono ?_); rintro e w' ⟨rfl, hb⟩; have hbn := Lib.hid (by first | exact HBc.out.trans (hb.mono HBc.out.size) | exact (HBc.out.alloc HBc.out.size _).trans (hb.mono (Nat.le_trans HBc.out.size (by simp)))); clear HBc hLc hBc hb p0 p1 p2 p3 q0 q1 q2 q3; have HBc := hbn; clear hbn; obtain ⟨ka, kb, hBc, hLc⟩ := HK.out _ HBc.out; obtain ⟨p0, p1, p2, p3, _, _, _, _⟩ := version_Parse.cells ka; obtain ⟨q0, q1, q2, q3, _, _, _, _⟩ := version_Parse.cells kb; clear ka kb; obtain ⟨ka, kb, hBd, hLd⟩ := HK.out _ (HBc.out.alloc HBc.out.size (Obj.cells #[.int .i64 a0_0, .int .i64 a0_1, .int .i64 a0_2, .string ⟨#[]⟩] 23 (0, 0))); obtain ⟨p0d, p1d, p2d, p3d, _, _, _, _⟩ := version_Parse.cells ka; obtain ⟨q0d, q1d, q2d, q3d, _, _, _, _⟩ := version_Parse.cells kb; clear ka kb) | (go_at_call 14; (with_reducible refine (CV.out _ (by first | exact hLc | exact LD.below hLc ((Below.refl _ _).alloc (Nat.le_refl _) _))).mono ?_); rintro e w' ⟨rfl, hb⟩; have hbn := Lib.hid (by first | exact HBc.out.trans (hb.mono HBc.out.size) | exact (HBc.out.alloc HBc.out.size _).trans (hb.mono (Nat.le_trans HBc.out.size (by simp)))); clear HBc hLc hBc hb p0 p1 p2 p3 q0 q1 q2 q3; have HBc := hbn; clear hbn; obtain ⟨ka, kb, hBc, hLc⟩ := HK.out _ HBc.out; obtain ⟨p0, p1, p2, p3, _, _, _, _⟩ := version_Parse.cells ka; obtain ⟨q0, q1, q2, q3, _, _, _, _⟩ := version_Parse.cells kb; clear ka kb) | (go_at_call 15; (with_reducible refine (CAB.out _ (by first | exact hLc | exact LD.below hLc ((Below.refl _ _).alloc (Nat.le_refl _) _))).mono ?_); rintro e w' ⟨rfl, hb⟩; have hbn := Lib.hid (by first | exact HBc.out.trans (hb.mono HBc.out.size) | exact (HBc.out.alloc HBc.out.size _).trans (hb.mono (Nat.le_trans HBc.out.size (by simp)))); clear HBc hLc hBc hb p0 p1 p2 p3 q0 q1 q2 q3; have HBc := hbn; clear hbn; obtain ⟨ka, kb, hBc, hLc⟩ := HK.out _ HBc.out; obtain ⟨p0, p1, p2, p3, _, _, _, _⟩ := version_Parse.cells ka; obtain ⟨q0, q1, q2, q3, _, _, _, _⟩ := version_Parse.cells kb; clear ka kb))
              go_ret
              exact ⟨rfl, hBc⟩
            · have d3 : decide (a1_1 ≤ a0_1) = false := decide_eq_false h3
              rw [if_neg h3] at h
              by_cases h4 : y = -1
              · subst h4
                rw [if_pos rfl] at h
                obtain rfl := Option.some.inj h
                clear h h1 h2 h3 he
                go_enter Tryd.func7, Tryd.ntmps7
                go_wp2_with (first | (go_at_call 9; refine (CL.out _ _ ?hb).mono ?_; (case hb => simp); rintro e w' ⟨rfl, hb⟩; have HBc := Lib.hid hb; clear hb; obtain ⟨ka, kb, hBc, hLc⟩ := HK.out _ HBc.out; obtain ⟨p0, p1, p2, p3, _, _, _, _⟩ := version_Parse.cells ka; obtain ⟨q0, q1, q2, q3, _, _, _, _⟩ := version_Parse.cells kb; clear ka kb) | (go_at_call 12; (with_reducible refine (CPA.out _ (by first | exact hLc | exact LD.below hLc ((Below.refl _ _).alloc (Nat.le_refl _) _))).mono ?_); rintro e w' ⟨rfl, hb⟩; have hbn := Lib.hid (by first | exact HBc.out.trans (hb.mono HBc.out.size) | exact (HBc.out.alloc HBc.out.size _).trans (hb.mono (Nat.le_trans HBc.out.size (by simp)))); clear HBc hLc hBc hb p0 p1 p2 p3 q0 q1 q2 q3; have HBc := hbn; clear hbn; obtain ⟨ka, kb, hBc, hLc⟩ := HK.out _ HBc.out; obtain ⟨p0, p1, p2, p3, _, _, _, _⟩ := version_Parse.cells ka; obtain ⟨q0, q1, q2, q3, _, _, _, _⟩ := version_Parse.cells kb; clear ka kb) | (go_at_call 12; (with_reducible refine (CPB.out _ (by first | exact hLc | exact LD.below hLc ((Below.refl _ _).alloc (Nat.le_refl _) _))).mono ?_); rintro e w' ⟨rfl, hb⟩; have hbn := Lib.hid (by first | exact HBc.out.trans (hb.mono HBc.out.size) | exact (HBc.out.alloc HBc.out.size _).trans (hb.mono (Nat.le_trans HBc.out.size (by simp)))); clear HBc hLc hBc hb p0 p1 p2 p3 q0 q1 q2 q3; have HBc := hbn; clear hbn; obtain ⟨ka, kb, hBc, hLc⟩ := HK.out _ HBc.out; obtain ⟨p0, p1, p2, p3, _, _, _, _⟩ := version_Parse.cells ka; obtain ⟨q0, q1, q2, q3, _, _, _, _⟩ := version_Parse.cells kb; clear ka kb; obtain ⟨ka, kb, hBd, hLd⟩ := HK.out _ (HBc.out.alloc HBc.out.size (Obj.cells #[.int .i64 a0_0, .int .i64 a0_1, .int .i64 a0_2, .string ⟨#[]⟩] 23 (0, 0))); obtain ⟨p0d, p1d, p2d, p3d, _, _, _, _⟩ := version_Parse.cells ka; obtain ⟨q0d, q1d, q2d, q3d, _, _, _, _⟩ := version_Parse.cells kb; clear ka kb) | (go_at_call 14; (with_reducible refine (CV.out _ (by first | exact hLc | exact LD.below hLc ((Below.refl _ _).alloc (Nat.le_refl _) _))).mono ?_); rintro e w' ⟨rfl, hb⟩; have hbn := Lib.hid (by first | exact HBc.out.trans (hb.mono HBc.out.size) | exact (HBc.out.alloc HBc.out.size _).trans (hb.mono (Nat.le_trans HBc.out.size (by simp)))); clear HBc hLc hBc hb p0 p1 p2 p3 q0 q1 q2 q3; have HBc := hbn; clear hbn; obtain ⟨ka, kb, hBc, hLc⟩ := HK.out _ HBc.out; obtain ⟨p0, p1, p2, p3, _, _, _, _⟩ := version_Parse.cells ka; obtain ⟨q0, q1, q2, q3, _, _, _, _⟩ := version_Parse.cells kb; clear ka kb) | (go_at_call 15; (with_reducible refine (CAB.out _ (by first | exact hLc | exact LD.below hLc ((Below.refl _ _).alloc (Nat.le_refl _) _))).mono ?_); rintro e w' ⟨rfl, hb⟩; have hbn := Lib.hid (by first | exact HBc.out.trans (hb.mono HBc.out.size) | exact (HBc.out.alloc HBc.out.size _).trans (hb.mono (Nat.le_trans HBc.out.size (by simp)))); clear HBc hLc hBc hb p0 p1 p2 p3 q0 q1 q2 q3; have HBc := hbn; clear hbn; obtain ⟨ka, kb, hBc, hLc⟩ := HK.out _ HBc.out; obtain ⟨p0, p1, p2, p3, _, _, _, _⟩ := version_Parse.cells ka; obtain ⟨q0, q1, q2, q3, _, _, _, _⟩ := version_Parse.cells kb; clear ka kb))
                go_ret
                exact ⟨rfl, hBc⟩
              · rw [if_neg h4] at h; cases h
          · have d2 : (a0_0 != a1_0) = true := bne_iff_ne.mpr h2
            rw [if_neg h2] at h
            obtain rfl := Option.some.inj h
            clear h h1 h2 he
            go_enter Tryd.func7, Tryd.ntmps7
            go_wp2_with (first | (go_at_call 9; refine (CL.out _ _ ?hb).mono ?_; (case hb => simp); rintro e w' ⟨rfl, hb⟩; have HBc := Lib.hid hb; clear hb; obtain ⟨ka, kb, hBc, hLc⟩ := HK.out _ HBc.out; obtain ⟨p0, p1, p2, p3, _, _, _, _⟩ := version_Parse.cells ka; obtain ⟨q0, q1, q2, q3, _, _, _, _⟩ := version_Parse.cells kb; clear ka kb) | (go_at_call 12; (with_reducible refine (CPA.out _ (by first | exact hLc | exact LD.below hLc ((Below.refl _ _).alloc (Nat.le_refl _) _))).mono ?_); rintro e w' ⟨rfl, hb⟩; have hbn := Lib.hid (by first | exact HBc.out.trans (hb.mono HBc.out.size) | exact (HBc.out.alloc HBc.out.size _).trans (hb.mono (Nat.le_trans HBc.out.size (by simp)))); clear HBc hLc hBc hb p0 p1 p2 p3 q0 q1 q2 q3; have HBc := hbn; clear hbn; obtain ⟨ka, kb, hBc, hLc⟩ := HK.out _ HBc.out; obtain ⟨p0, p1, p2, p3, _, _, _, _⟩ := version_Parse.cells ka; obtain ⟨q0, q1, q2, q3, _, _, _, _⟩ := version_Parse.cells kb; clear ka kb) | (go_at_call 12; (with_reducible refine (CPB.out _ (by first | exact hLc | exact LD.below hLc ((Below.refl _ _).alloc (Nat.le_refl _) _))).mono ?_); rintro e w' ⟨rfl, hb⟩; have hbn := Lib.hid (by first | exact HBc.out.trans (hb.mono HBc.out.size) | exact (HBc.out.alloc HBc.out.size _).trans (hb.mono (Nat.le_trans HBc.out.size (by simp)))); clear HBc hLc hBc hb p0 p1 p2 p3 q0 q1 q2 q3; have HBc := hbn; clear hbn; obtain ⟨ka, kb, hBc, hLc⟩ := HK.out _ HBc.out; obtain ⟨p0, p1, p2, p3, _, _, _, _⟩ := version_Parse.cells ka; obtain ⟨q0, q1, q2, q3, _, _, _, _⟩ := version_Parse.cells kb; clear ka kb; obtain ⟨ka, kb, hBd, hLd⟩ := HK.out _ (HBc.out.alloc HBc.out.size (Obj.cells #[.int .i64 a0_0, .int .i64 a0_1, .int .i64 a0_2, .string ⟨#[]⟩] 23 (0, 0))); obtain ⟨p0d, p1d, p2d, p3d, _, _, _, _⟩ := version_Parse.cells ka; obtain ⟨q0d, q1d, q2d, q3d, _, _, _, _⟩ := version_Parse.cells kb; clear ka kb) | (go_at_call 14; (with_reducible refine (CV.out _ (by first | exact hLc | exact LD.below hLc ((Below.refl _ _).alloc (Nat.le_refl _) _))).mono ?_); rintro e w' ⟨rfl, hb⟩; have hbn := Lib.hid (by first | exact HBc.out.trans (hb.mono HBc.out.size) | exact (HBc.out.alloc HBc.out.size _).trans (hb.mono (Nat.le_trans HBc.out.size (by simp)))); clear HBc hLc hBc hb p0 p1 p2 p3 q0 q1 q2 q3; have HBc := hbn; clear hbn; obtain ⟨ka, kb, hBc, hLc⟩ := HK.out _ HBc.out; obtain ⟨p0, p1, p2, p3, _, _, _, _⟩ := version_Parse.cells ka; obtain ⟨q0, q1, q2, q3, _, _, _, _⟩ := version_Parse.cells kb; clear ka kb) | (go_at_call 15; (with_reducible refine (CAB.out _ (by first | exact hLc | exact LD.below hLc ((Below.refl _ _).alloc (Nat.le_refl _) _))).mono ?_); rintro e w' ⟨rfl, hb⟩; have hbn := Lib.hid (by first | exact HBc.out.trans (hb.mono HBc.out.size) | exact (HBc.out.alloc HBc.out.size _).trans (hb.mono (Nat.le_trans HBc.out.size (by simp)))); clear HBc hLc hBc hb p0 p1 p2 p3 q0 q1 q2 q3; have HBc := hbn; clear hbn; obtain ⟨ka, kb, hBc, hLc⟩ := HK.out _ HBc.out; obtain ⟨p0, p1, p2, p3, _, _, _, _⟩ := version_Parse.cells ka; obtain ⟨q0, q1, q2, q3, _, _, _, _⟩ := version_Parse.cells kb; clear ka kb))
            go_ret
            exact ⟨rfl, hBc⟩
        · have d1 : decide (a0_0 ≤ a1_0) = false := decide_eq_false h1
          have d2 : (a0_0 != a1_0) = true := bne_iff_ne.mpr (by omega)
          rw [if_neg h1] at h
          by_cases h4 : y = 1
          · subst h4
            rw [if_pos rfl] at h
            obtain rfl := Option.some.inj h
            clear h h1 he
            go_enter Tryd.func7, Tryd.ntmps7
            go_wp2_with (first | (go_at_call 9; refine (CL.out _ _ ?hb).mono ?_; (case hb => simp); rintro e w' ⟨rfl, hb⟩; have HBc := Lib.hid hb; clear hb; obtain ⟨ka, kb, hBc, hLc⟩ := HK.out _ HBc.out; obtain ⟨p0, p1, p2, p3, _, _, _, _⟩ := version_Parse.cells ka; obtain ⟨q0, q1, q2, q3, _, _, _, _⟩ := version_Parse.cells kb; clear ka kb) | (go_at_call 12; (with_reducible refine (CPA.out _ (by first | exact hLc | exact LD.below hLc ((Below.refl _ _).alloc (Nat.le_refl _) _))).mono ?_); rintro e w' ⟨rfl, hb⟩; have hbn := Lib.hid (by first | exact HBc.out.trans (hb.mono HBc.out.size) | exact (HBc.out.alloc HBc.out.size _).trans (hb.mono (Nat.le_trans HBc.out.size (by simp)))); clear HBc hLc hBc hb p0 p1 p2 p3 q0 q1 q2 q3; have HBc := hbn; clear hbn; obtain ⟨ka, kb, hBc, hLc⟩ := HK.out _ HBc.out; obtain ⟨p0, p1, p2, p3, _, _, _, _⟩ := version_Parse.cells ka; obtain ⟨q0, q1, q2, q3, _, _, _, _⟩ := version_Parse.cells kb; clear ka kb) | (go_at_call 12; (with_reducible refine (CPB.out _ (by first | exact hLc | exact LD.below hLc ((Below.refl _ _).alloc (Nat.le_refl _) _))).mono ?_); rintro e w' ⟨rfl, hb⟩; have hbn := Lib.hid (by first | exact HBc.out.trans (hb.mono HBc.out.size) | exact (HBc.out.alloc HBc.out.size _).trans (hb.mono (Nat.le_trans HBc.out.size (by simp)))); clear HBc hLc hBc hb p0 p1 p2 p3 q0 q1 q2 q3; have HBc := hbn; clear hbn; obtain ⟨ka, kb, hBc, hLc⟩ := HK.out _ HBc.out; obtain ⟨p0, p1, p2, p3, _, _, _, _⟩ := version_Parse.cells ka; obtain ⟨q0, q1, q2, q3, _, _, _, _⟩ := version_Parse.cells kb; clear ka kb; obtain ⟨ka, kb, hBd, hLd⟩ := HK.out _ (HBc.out.alloc HBc.out.size (Obj.cells #[.int .i64 a0_0, .int .i64 a0_1, .int .i64 a0_2, .string ⟨#[]⟩] 23 (0, 0))); obtain ⟨p0d, p1d, p2d, p3d, _, _, _, _⟩ := version_Parse.cells ka; obtain ⟨q0d, q1d, q2d, q3d, _, _, _, _⟩ := version_Parse.cells kb; clear ka kb) | (go_at_call 14; (with_reducible refine (CV.out _ (by first | exact hLc | exact LD.below hLc ((Below.refl _ _).alloc (Nat.le_refl _) _))).mono ?_); rintro e w' ⟨rfl, hb⟩; have hbn := Lib.hid (by first | exact HBc.out.trans (hb.mono HBc.out.size) | exact (HBc.out.alloc HBc.out.size _).trans (hb.mono (Nat.le_trans HBc.out.size (by simp)))); clear HBc hLc hBc hb p0 p1 p2 p3 q0 q1 q2 q3; have HBc := hbn; clear hbn; obtain ⟨ka, kb, hBc, hLc⟩ := HK.out _ HBc.out; obtain ⟨p0, p1, p2, p3, _, _, _, _⟩ := version_Parse.cells ka; obtain ⟨q0, q1, q2, q3, _, _, _, _⟩ := version_Parse.cells kb; clear ka kb) | (go_at_call 15; (with_reducible refine (CAB.out _ (by first | exact hLc | exact LD.below hLc ((Below.refl _ _).alloc (Nat.le_refl _) _))).mono ?_); rintro e w' ⟨rfl, hb⟩; have hbn := Lib.hid (by first | exact HBc.out.trans (hb.mono HBc.out.size) | exact (HBc.out.alloc HBc.out.size _).trans (hb.mono (Nat.le_trans HBc.out.size (by simp)))); clear HBc hLc hBc hb p0 p1 p2 p3 q0 q1 q2 q3; have HBc := hbn; clear hbn; obtain ⟨ka, kb, hBc, hLc⟩ := HK.out _ HBc.out; obtain ⟨p0, p1, p2, p3, _, _, _, _⟩ := version_Parse.cells ka; obtain ⟨q0, q1, q2, q3, _, _, _, _⟩ := version_Parse.cells kb; clear ka kb))
            go_ret
            exact ⟨rfl, hBc⟩
          · rw [if_neg h4] at h; cases h
      · have c1 : (a0_3.toList != ([] : List UInt8)) = true := bne_iff_ne.mpr he
        have c2 : a0_3.toList.isEmpty = false := by cases hd : a0_3.toList with
          | nil => exact absurd hd he
          | cons => rfl
        rw [if_neg he] at hx
        have CAC := Lib.hid (fun W hW => version_Compare.calls k a0_0 a0_1 a0_2 a0_3 a0_0 a0_1 a0_2 ⟨#[]⟩ (-1) W hx hW)
        clear hx
        by_cases h1 : a0_0 ≤ a1_0
        · have d1 : decide (a0_0 ≤ a1_0) = true := decide_eq_true h1
          rw [if_pos h1] at h
          by_cases h2 : a0_0 = a1_0
          · have d2 : (a0_0 != a1_0) = false := bne_eq_false_iff_eq.mpr h2
            rw [if_pos h2] at h
            by_cases h3 : a1_1 ≤ a0_1
            · have d3 : decide (a1_1 ≤ a0_1) = true := decide_eq_true h3
              rw [if_pos h3] at h
              obtain rfl := Option.some.inj h
              clear h h1 h2 h3 he
              go_enter Tryd.func7, Tryd.ntmps7
              go_wp2_with (first | (go_at_call 9; refine (CL.out _ _ ?hb).mono ?_; (case hb => simp); rintro e w' ⟨rfl, hb⟩; have HBc := Lib.hid hb; clear hb; obtain ⟨ka, kb, hBc, hLc⟩ := HK.out _ HBc.out; obtain ⟨p0, p1, p2, p3, _, _, _, _⟩ := version_Parse.cells ka; obtain ⟨q0, q1, q2, q3, _, _, _, _⟩ := version_Parse.cells kb; clear ka kb) | (go_at_call 12; (with_reducible refine (CPA.out _ (by first | exact hLc | exact LD.below hLc ((Below.refl _ _).alloc (Nat.le_refl _) _))).mono ?_); rintro e w' ⟨rfl, hb⟩; have hbn := Lib.hid (by first | exact HBc.out.trans (hb.mono HBc.out.size) | exact (HBc.out.alloc HBc.out.size _).trans (hb.mono (Nat.le_trans HBc.out.size (by simp)))); clear HBc hLc hBc hb p0 p1 p2 p3 q0 q1 q2 q3; have HBc := hbn; clear hbn; obtain ⟨ka, kb, hBc, hLc⟩ := HK.out _ HBc.out; obtain ⟨p0, p1, p2, p3, _, _, _, _⟩ := version_Parse.cells ka; obtain ⟨q0, q1, q2, q3, _, _, _, _⟩ := version_Parse.cells kb; clear ka kb) | (go_at_call 12; (with_reducible refine (CPB.out _ (by first | exact hLc | exact LD.below hLc ((Below.refl _ _).alloc (Nat.le_refl _) _))).mono ?_); rintro e w' ⟨rfl, hb⟩; have hbn := Lib.hid (by first | exact HBc.out.trans (hb.mono HBc.out.size) | exact (HBc.out.alloc HBc.out.size _).trans (hb.mono (Nat.le_trans HBc.out.size (by simp)))); clear HBc hLc hBc hb p0 p1 p2 p3 q0 q1 q2 q3; have HBc := hbn; clear hbn; obtain ⟨ka, kb, hBc, hLc⟩ := HK.out _ HBc.out; obtain ⟨p0, p1, p2, p3, _, _, _, _⟩ := version_Parse.cells ka; obtain ⟨q0, q1, q2, q3, _, _, _, _⟩ := version_Parse.cells kb; clear ka kb; obtain ⟨ka, kb, hBd, hLd⟩ := HK.out _ (HBc.out.alloc HBc.out.size (Obj.cells #[.int .i64 a0_0, .int .i64 a0_1, .int .i64 a0_2, .string ⟨#[]⟩] 23 (0, 0))); obtain ⟨p0d, p1d, p2d, p3d, _, _, _, _⟩ := version_Parse.cells ka; obtain ⟨q0d, q1d, q2d, q3d, _, _, _, _⟩ := version_Parse.cells kb; clear ka kb) | (go_at_call 14; (with_reducible refine (CV.out _ (by first | exact hLc | exact LD.below hLc ((Below.refl _ _).alloc (Nat.le_refl _) _))).mono ?_); rintro e w' ⟨rfl, hb⟩; have hbn := Lib.hid (by first | exact HBc.out.trans (hb.mono HBc.out.size) | exact (HBc.out.alloc HBc.out.size _).trans (hb.mono (Nat.le_trans HBc.out.size (by simp)))); clear HBc hLc hBc hb p0 p1 p2 p3 q0 q1 q2 q3; have HBc := hbn; clear hbn; obtain ⟨ka, kb, hBc, hLc⟩ := HK.out _ HBc.out; obtain ⟨p0, p1, p2, p3, _, _, _, _⟩ := version_Parse.cells ka; obtain ⟨q0, q1, q2, q3, _, _, _, _⟩ := version_Parse.cells kb; clear ka kb) | (go_at_call 15; (with_reducible refine (CAC.out _ (by first | exact hLc | exact LD.below hLc ((Below.refl _ _).alloc (Nat.le_refl _) _))).mono ?_); rintro e w' ⟨rfl, hb⟩; have hbn := Lib.hid (by first | exact HBc.out.trans (hb.mono HBc.out.size) | exact (HBc.out.alloc HBc.out.size _).trans (hb.mono (Nat.le_trans HBc.out.size (by simp)))); clear HBc hLc hBc hb p0 p1 p2 p3 q0 q1 q2 q3; have HBc := hbn; clear hbn; obtain ⟨ka, kb, hBc, hLc⟩ := HK.out _ HBc.out; obtain ⟨p0, p1, p2, p3, _, _, _, _⟩ := version_Parse.cells ka; obtain ⟨q0, q1, q2, q3, _, _, _, _⟩ := version_Parse.cells kb; clear ka kb) | (go_at_call 15; (with_reducible refine (CAB.out _ (by first | exact hLc | exact LD.below hLc ((Below.refl _ _).alloc (Nat.le_refl _) _))).mono ?_); rintro e w' ⟨rfl, hb⟩; have hbn := Lib.hid (by first | exact HBc.out.trans (hb.mono HBc.out.size) | exact (HBc.out.alloc HBc.out.size _).trans (hb.mono (Nat.le_trans HBc.out.size (by simp)))); clear HBc hLc hBc hb p0 p1 p2 p3 q0 q1 q2 q3; have HBc := hbn; clear hbn; obtain ⟨ka, kb, hBc, hLc⟩ := HK.out _ HBc.out; obtain ⟨p0, p1, p2, p3, _, _, _, _⟩ := version_Parse.cells ka; obtain ⟨q0, q1, q2, q3, _, _, _, _⟩ := version_Parse.cells kb; clear ka kb))
              go_ret
              exact ⟨rfl, hBc⟩
            · have d3 : decide (a1_1 ≤ a0_1) = false := decide_eq_false h3
              rw [if_neg h3] at h
              by_cases h4 : y = -1
              · subst h4
                rw [if_pos rfl] at h
                obtain rfl := Option.some.inj h
                clear h h1 h2 h3 he
                go_enter Tryd.func7, Tryd.ntmps7
                go_wp2_with (first | (go_at_call 9; refine (CL.out _ _ ?hb).mono ?_; (case hb => simp); rintro e w' ⟨rfl, hb⟩; have HBc := Lib.hid hb; clear hb; obtain ⟨ka, kb, hBc, hLc⟩ := HK.out _ HBc.out; obtain ⟨p0, p1, p2, p3, _, _, _, _⟩ := version_Parse.cells ka; obtain ⟨q0, q1, q2, q3, _, _, _, _⟩ := version_Parse.cells kb; clear ka kb) | (go_at_call 12; (with_reducible refine (CPA.out _ (by first | exact hLc | exact LD.below hLc ((Below.refl _ _).alloc (Nat.le_refl _) _))).mono ?_); rintro e w' ⟨rfl, hb⟩; have hbn := Lib.hid (by first | exact HBc.out.trans (hb.mono HBc.out.size) | exact (HBc.out.alloc HBc.out.size _).trans (hb.mono (Nat.le_trans HBc.out.size (by simp)))); clear HBc hLc hBc hb p0 p1 p2 p3 q0 q1 q2 q3; have HBc := hbn; clear hbn; obtain ⟨ka, kb, hBc, hLc⟩ := HK.out _ HBc.out; obtain ⟨p0, p1, p2, p3, _, _, _, _⟩ := version_Parse.cells ka; obtain ⟨q0, q1, q2, q3, _, _, _, _⟩ := version_Parse.cells kb; clear ka kb) | (go_at_call 12; (with_reducible refine (CPB.out _ (by first | exact hLc | exact LD.below hLc ((Below.refl _ _).alloc (Nat.le_refl _) _))).mono ?_); rintro e w' ⟨rfl, hb⟩; have hbn := Lib.hid (by first | exact HBc.out.trans (hb.mono HBc.out.size) | exact (HBc.out.alloc HBc.out.size _).trans (hb.mono (Nat.le_trans HBc.out.size (by simp)))); clear HBc hLc hBc hb p0 p1 p2 p3 q0 q1 q2 q3; have HBc := hbn; clear hbn; obtain ⟨ka, kb, hBc, hLc⟩ := HK.out _ HBc.out; obtain ⟨p0, p1, p2, p3, _, _, _, _⟩ := version_Parse.cells ka; obtain ⟨q0, q1, q2, q3, _, _, _, _⟩ := version_Parse.cells kb; clear ka kb; obtain ⟨ka, kb, hBd, hLd⟩ := HK.out _ (HBc.out.alloc HBc.out.size (Obj.cells #[.int .i64 a0_0, .int .i64 a0_1, .int .i64 a0_2, .string ⟨#[]⟩] 23 (0, 0))); obtain ⟨p0d, p1d, p2d, p3d, _, _, _, _⟩ := version_Parse.cells ka; obtain ⟨q0d, q1d, q2d, q3d, _, _, _, _⟩ := version_Parse.cells kb; clear ka kb) | (go_at_call 14; (with_reducible refine (CV.out _ (by first | exact hLc | exact LD.below hLc ((Below.refl _ _).alloc (Nat.le_refl _) _))).mono ?_); rintro e w' ⟨rfl, hb⟩; have hbn := Lib.hid (by first | exact HBc.out.trans (hb.mono HBc.out.size) | exact (HBc.out.alloc HBc.out.size _).trans (hb.mono (Nat.le_trans HBc.out.size (by simp)))); clear HBc hLc hBc hb p0 p1 p2 p3 q0 q1 q2 q3; have HBc := hbn; clear hbn; obtain ⟨ka, kb, hBc, hLc⟩ := HK.out _ HBc.out; obtain ⟨p0, p1, p2, p3, _, _, _, _⟩ := version_Parse.cells ka; obtain ⟨q0, q1, q2, q3, _, _, _, _⟩ := version_Parse.cells kb; clear ka kb) | (go_at_call 15; (with_reducible refine (CAC.out _ (by first | exact hLc | exact LD.below hLc ((Below.refl _ _).alloc (Nat.le_refl _) _))).mono ?_); rintro e w' ⟨rfl, hb⟩; have hbn := Lib.hid (by first | exact HBc.out.trans (hb.mono HBc.out.size) | exact (HBc.out.alloc HBc.out.size _).trans (hb.mono (Nat.le_trans HBc.out.size (by simp)))); clear HBc hLc hBc hb p0 p1 p2 p3 q0 q1 q2 q3; have HBc := hbn; clear hbn; obtain ⟨ka, kb, hBc, hLc⟩ := HK.out _ HBc.out; obtain ⟨p0, p1, p2, p3, _, _, _, _⟩ := version_Parse.cells ka; obtain ⟨q0, q1, q2, q3, _, _, _, _⟩ := version_Parse.cells kb; clear ka kb) | (go_at_call 15; (with_reducible refine (CAB.out _ (by first | exact hLc | exact LD.below hLc ((Below.refl _ _).alloc (Nat.le_refl _) _))).mono ?_); rintro e w' ⟨rfl, hb⟩; have hbn := Lib.hid (by first | exact HBc.out.trans (hb.mono HBc.out.size) | exact (HBc.out.alloc HBc.out.size _).trans (hb.mono (Nat.le_trans HBc.out.size (by simp)))); clear HBc hLc hBc hb p0 p1 p2 p3 q0 q1 q2 q3; have HBc := hbn; clear hbn; obtain ⟨ka, kb, hBc, hLc⟩ := HK.out _ HBc.out; obtain ⟨p0, p1, p2, p3, _, _, _, _⟩ := version_Parse.cells ka; obtain ⟨q0, q1, q2, q3, _, _, _, _⟩ := version_Parse.cells kb; clear ka kb))
                go_ret
                exact ⟨rfl, hBc⟩
              · rw [if_neg h4] at h; cases h
          · have d2 : (a0_0 != a1_0) = true := bne_iff_ne.mpr h2
            rw [if_neg h2] at h
            obtain rfl := Option.some.inj h
            clear h h1 h2 he
            go_enter Tryd.func7, Tryd.ntmps7
            go_wp2_with (first | (go_at_call 9; refine (CL.out _ _ ?hb).mono ?_; (case hb => simp); rintro e w' ⟨rfl, hb⟩; have HBc := Lib.hid hb; clear hb; obtain ⟨ka, kb, hBc, hLc⟩ := HK.out _ HBc.out; obtain ⟨p0, p1, p2, p3, _, _, _, _⟩ := version_Parse.cells ka; obtain ⟨q0, q1, q2, q3, _, _, _, _⟩ := version_Parse.cells kb; clear ka kb) | (go_at_call 12; (with_reducible refine (CPA.out _ (by first | exact hLc | exact LD.below hLc ((Below.refl _ _).alloc (Nat.le_refl _) _))).mono ?_); rintro e w' ⟨rfl, hb⟩; have hbn := Lib.hid (by first | exact HBc.out.trans (hb.mono HBc.out.size) | exact (HBc.out.alloc HBc.out.size _).trans (hb.mono (Nat.le_trans HBc.out.size (by simp)))); clear HBc hLc hBc hb p0 p1 p2 p3 q0 q1 q2 q3; have HBc := hbn; clear hbn; obtain ⟨ka, kb, hBc, hLc⟩ := HK.out _ HBc.out; obtain ⟨p0, p1, p2, p3, _, _, _, _⟩ := version_Parse.cells ka; obtain ⟨q0, q1, q2, q3, _, _, _, _⟩ := version_Parse.cells kb; clear ka kb) | (go_at_call 12; (with_reducible refine (CPB.out _ (by first | exact hLc | exact LD.below hLc ((Below.refl _ _).alloc (Nat.le_refl _) _))).mono ?_); rintro e w' ⟨rfl, hb⟩; have hbn := Lib.hid (by first | exact HBc.out.trans (hb.mono HBc.out.size) | exact (HBc.out.alloc HBc.out.size _).trans (hb.mono (Nat.le_trans HBc.out.size (by simp)))); clear HBc hLc hBc hb p0 p1 p2 p3 q0 q1 q2 q3; have HBc := hbn; clear hbn; obtain ⟨ka, kb, hBc, hLc⟩ := HK.out _ HBc.out; obtain ⟨p0, p1, p2, p3, _, _, _, _⟩ := version_Parse.cells ka; obtain ⟨q0, q1, q2, q3, _, _, _, _⟩ := version_Parse.cells kb; clear ka kb; obtain ⟨ka, kb, hBd, hLd⟩ := HK.out _ (HBc.out.alloc HBc.out.size (Obj.cells #[.int .i64 a0_0, .int .i64 a0_1, .int .i64 a0_2, .string ⟨#[]⟩] 23 (0, 0))); obtain ⟨p0d, p1d, p2d, p3d, _, _, _, _⟩ := version_Parse.cells ka; obtain ⟨q0d, q1d, q2d, q3d, _, _, _, _⟩ := version_Parse.cells kb; clear ka kb) | (go_at_call 14; (with_reducible refine (CV.out _ (by first | exact hLc | exact LD.below hLc ((Below.refl _ _).alloc (Nat.le_refl _) _))).mono ?_); rintro e w' ⟨rfl, hb⟩; have hbn := Lib.hid (by first | exact HBc.out.trans (hb.mono HBc.out.size) | exact (HBc.out.alloc HBc.out.size _).trans (hb.mono (Nat.le_trans HBc.out.size (by simp)))); clear HBc hLc hBc hb p0 p1 p2 p3 q0 q1 q2 q3; have HBc := hbn; clear hbn; obtain ⟨ka, kb, hBc, hLc⟩ := HK.out _ HBc.out; obtain ⟨p0, p1, p2, p3, _, _, _, _⟩ := version_Parse.cells ka; obtain ⟨q0, q1, q2, q3, _, _, _, _⟩ := version_Parse.cells kb; clear ka kb) | (go_at_call 15; (with_reducible refine (CAC.out _ (by first | exact hLc | exact LD.below hLc ((Below.refl _ _).alloc (Nat.le_refl _) _))).mono ?_); rintro e w' ⟨rfl, hb⟩; have hbn := Lib.hid (by first | exact HBc.out.trans (hb.mono HBc.out.size) | exact (HBc.out.alloc HBc.out.size _).trans (hb.mono (Nat.le_trans HBc.out.size (by simp)))); clear HBc hLc hBc hb p0 p1 p2 p3 q0 q1 q2 q3; have HBc := hbn; clear hbn; obtain ⟨ka, kb, hBc, hLc⟩ := HK.out _ HBc.out; obtain ⟨p0, p1, p2, p3, _, _, _, _⟩ := version_Parse.cells ka; obtain ⟨q0, q1, q2, q3, _, _, _, _⟩ := version_Parse.cells kb; clear ka kb) | (go_at_call 15; (with_reducible refine (CAB.out _ (by first | exact hLc | exact LD.below hLc ((Below.refl _ _).alloc (Nat.le_refl _) _))).mono ?_); rintro e w' ⟨rfl, hb⟩; have hbn := Lib.hid (by first | exact HBc.out.trans (hb.mono HBc.out.size) | exact (HBc.out.alloc HBc.out.size _).trans (hb.mono (Nat.le_trans HBc.out.size (by simp)))); clear HBc hLc hBc hb p0 p1 p2 p3 q0 q1 q2 q3; have HBc := hbn; clear hbn; obtain ⟨ka, kb, hBc, hLc⟩ := HK.out _ HBc.out; obtain ⟨p0, p1, p2, p3, _, _, _, _⟩ := version_Parse.cells ka; obtain ⟨q0, q1, q2, q3, _, _, _, _⟩ := version_Parse.cells kb; clear ka kb))
            go_ret
            exact ⟨rfl, hBc⟩
        · have d1 : decide (a0_0 ≤ a1_0) = false := decide_eq_false h1
          have d2 : (a0_0 != a1_0) = true := bne_iff_ne.mpr (by omega)
          rw [if_neg h1] at h
          by_cases h4 : y = 1
          · subst h4
            rw [if_pos rfl] at h
            obtain rfl := Option.some.inj h
            clear h h1 he
            go_enter Tryd.func7, Tryd.ntmps7
            go_wp2_with (first | (go_at_call 9; refine (CL.out _ _ ?hb).mono ?_; (case hb => simp); rintro e w' ⟨rfl, hb⟩; have HBc := Lib.hid hb; clear hb; obtain ⟨ka, kb, hBc, hLc⟩ := HK.out _ HBc.out; obtain ⟨p0, p1, p2, p3, _, _, _, _⟩ := version_Parse.cells ka; obtain ⟨q0, q1, q2, q3, _, _, _, _⟩ := version_Parse.cells kb; clear ka kb) | (go_at_call 12; (with_reducible refine (CPA.out _ (by first | exact hLc | exact LD.below hLc ((Below.refl _ _).alloc (Nat.le_refl _) _))).mono ?_); rintro e w' ⟨rfl, hb⟩; have hbn := Lib.hid (by first | exact HBc.out.trans (hb.mono HBc.out.size) | exact (HBc.out.alloc HBc.out.size _).trans (hb.mono (Nat.le_trans HBc.out.size (by simp)))); clear HBc hLc hBc hb p0 p1 p2 p3 q0 q1 q2 q3; have HBc := hbn; clear hbn; obtain ⟨ka, kb, hBc, hLc⟩ := HK.out _ HBc.out; obtain ⟨p0, p1, p2, p3, _, _, _, _⟩ := version_Parse.cells ka; obtain ⟨q0, q1, q2, q3, _, _, _, _⟩ := version_Parse.cells kb; clear ka kb) | (go_at_call 12; (with_reducible refine (CPB.out _ (by first | exact hLc | exact LD.below hLc ((Below.refl _ _).alloc (Nat.le_refl _) _))).mono ?_); rintro e w' ⟨rfl, hb⟩; have hbn := Lib.hid (by first | exact HBc.out.trans (hb.mono HBc.out.size) | exact (HBc.out.alloc HBc.out.size _).trans (hb.mono (Nat.le_trans HBc.out.size (by simp)))); clear HBc hLc hBc hb p0 p1 p2 p3 q0 q1 q2 q3; have HBc := hbn; clear hbn; obtain ⟨ka, kb, hBc, hLc⟩ := HK.out _ HBc.out; obtain ⟨p0, p1, p2, p3, _, _, _, _⟩ := version_Parse.cells ka; obtain ⟨q0, q1, q2, q3, _, _, _, _⟩ := version_Parse.cells kb; clear ka kb; obtain ⟨ka, kb, hBd, hLd⟩ := HK.out _ (HBc.out.alloc HBc.out.size (Obj.cells #[.int .i64 a0_0, .int .i64 a0_1, .int .i64 a0_2, .string ⟨#[]⟩] 23 (0, 0))); obtain ⟨p0d, p1d, p2d, p3d, _, _, _, _⟩ := version_Parse.cells ka; obtain ⟨q0d, q1d, q2d, q3d, _, _, _, _⟩ := version_Parse.cells kb; clear ka kb) | (go_at_call 14; (with_reducible refine (CV.out _ (by first | exact hLc | exact LD.below hLc ((Below.refl _ _).alloc (Nat.le_refl _) _))).mono ?_); rintro e w' ⟨rfl, hb⟩; have hbn := Lib.hid (by first | exact HBc.out.trans (hb.mono HBc.out.size) | exact (HBc.out.alloc HBc.out.size _).trans (hb.mono (Nat.le_trans HBc.out.size (by simp)))); clear HBc hLc hBc hb p0 p1 p2 p3 q0 q1 q2 q3; have HBc := hbn; clear hbn; obtain ⟨ka, kb, hBc, hLc⟩ := HK.out _ HBc.out; obtain ⟨p0, p1, p2, p3, _, _, _, _⟩ := version_Parse.cells ka; obtain ⟨q0, q1, q2, q3, _, _, _, _⟩ := version_Parse.cells kb; clear ka kb) | (go_at_call 15; (with_reducible refine (CAC.out _ (by first | exact hLc | exact LD.below hLc ((Below.refl _ _).alloc (Nat.le_refl _) _))).mono ?_); rintro e w' ⟨rfl, hb⟩; have hbn := Lib.hid (by first | exact HBc.out.trans (hb.mono HBc.out.size) | exact (HBc.out.alloc HBc.out.size _).trans (hb.mono (Nat.le_trans HBc.out.size (by simp)))); clear HBc hLc hBc hb p0 p1 p2 p3 q0 q1 q2 q3; have HBc := hbn; clear hbn; obtain ⟨ka, kb, hBc, hLc⟩ := HK.out _ HBc.out; obtain ⟨p0, p1, p2, p3, _, _, _, _⟩ := version_Parse.cells ka; obtain ⟨q0, q1, q2, q3, _, _, _, _⟩ := version_Parse.cells kb; clear ka kb) | (go_at_call 15; (with_reducible refine (CAB.out _ (by first | exact hLc | exact LD.below hLc ((Below.refl _ _).alloc (Nat.le_refl _) _))).mono ?_); rintro e w' ⟨rfl, hb⟩; have hbn := Lib.hid (by first | exact HBc.out.trans (hb.mono HBc.out.size) | exact (HBc.out.alloc HBc.out.size _).trans (hb.mono (Nat.le_trans HBc.out.size (by simp)))); clear HBc hLc hBc hb p0 p1 p2 p3 q0 q1 q2 q3; have HBc := hbn; clear hbn; obtain ⟨ka, kb, hBc, hLc⟩ := HK.out _ HBc.out; obtain ⟨p0, p1, p2, p3, _, _, _, _⟩ := version_Parse.cells ka; obtain ⟨q0, q1, q2, q3, _, _, _, _⟩ := version_Parse.cells kb; clear ka kb))
            go_ret
            exact ⟨rfl, hBc⟩
          · rw [if_neg h4] at h; cases h
    · rw [if_neg hx1] at h; cases h
end
end Go.Proofs.YtijooffpjfhidaaDoor.G
end
section
namespace Go.Proofs.YtijooffpjfhidaaDoor.Vp
open Go Go.RowKit Go.Proofs.YtijooffpjfhidaaDoor.Txt Go.Proofs.YtijooffpjfhidaaDoor.Trim Go.Proofs.YtijooffpjfhidaaDoor.Num
def numF (n : Nat) (c : UInt8) : Nat := n * 10 + (c.toNat - 48)
def numV (l : List UInt8) : Nat := l.foldl numF 0
theorem numV_snoc (l : List UInt8) (c : UInt8) : numV (l ++ [c]) = numV l * 10 + (c.toNat - 48) := by simp [numV, numF]
theorem dig_iff {c : UInt8} : dig c = true ↔ 48 ≤ c.toNat ∧ c.toNat ≤ 57 := by unfold dig; simp
theorem fold_lt : ∀ (l : List UInt8) (acc : Nat), l.all dig = true → l.foldl numF acc < (acc + 1) * 10 ^ l.length
  | [], acc, _ => by simp
  | c :: r, acc, h => by
    rw [List.all_cons, Bool.and_eq_true] at h
    have hd := dig_iff.1 h.1
    rw [List.foldl_cons, List.length_cons, Nat.pow_succ]
    have h1 := fold_lt r (numF acc c) h.2
    have h2 : numF acc c + 1 ≤ (acc + 1) * 10 := by unfold numF; omega
    have h3 := Nat.mul_le_mul_right (10 ^ r.length) h2
    have h4 : (acc + 1) * 10 * 10 ^ r.length = (acc + 1) * (10 ^ r.length * 10) := by rw [Nat.mul_assoc, Nat.mul_comm 10]
    omega
theorem numV_lt {l : List UInt8} (h : l.all dig = true) : numV l < 10 ^ l.length := by have := fold_lt l 0 h; simpa [numV] using this
theorem parse10 : ∀ (l : List UInt8) (acc : Nat), l.all dig = true → (acc + 1) * 10 ^ l.length ≤ 1000000000000000000 → Lib.parseUint10 acc l = .ok (l.foldl numF acc)
  | [], acc, _, _ => rfl
  | c :: r, acc, h, hb => by
    rw [List.all_cons, Bool.and_eq_true] at h
    have hd := dig_iff.1 h.1
    have hp : 1 ≤ 10 ^ r.length := Nat.one_le_pow _ _ (by decide)
    rw [List.length_cons, Nat.pow_succ] at hb
    have h4 : (acc + 1) * 10 * 10 ^ r.length = (acc + 1) * (10 ^ r.length * 10) := by rw [Nat.mul_assoc, Nat.mul_comm 10]
    have h5 : (acc + 1) * 10 ≤ (acc + 1) * 10 * 10 ^ r.length := Nat.le_mul_of_pos_right _ hp
    have h6 : (acc * 10 + (c.toNat - 48) + 1) * 10 ^ r.length ≤ (acc + 1) * 10 * 10 ^ r.length := Nat.mul_le_mul_right _ (by omega)
    simp only [Lib.parseUint10]
    rw [if_pos hd, if_neg (by omega), if_neg (by omega), parse10 r _ h.2 (by omega)]
    rfl
theorem valA_num {l : List UInt8} (hp : plainB l = true) (hl : l.length ≤ 17) : valA l = numV l := by
  cases l with
  | nil => cases hp
  | cons c r =>
    have ha : (c :: r).all dig = true := hp
    have hd := dig_iff.1 ((Bool.and_eq_true _ _).mp (by rw [List.all_cons] at ha; exact ha)).1
    have hb : 10 ^ (c :: r).length ≤ 100000000000000000 := by
      have : 10 ^ (c :: r).length ≤ 10 ^ 17 := Nat.pow_le_pow_right (by decide) hl
      have e : 10 ^ 17 = 100000000000000000 := by decide
      omega
    have h1 := parse10 (c :: r) 0 ha (by omega)
    have h2 := numV_lt ha
    have hn43 : ¬ (c.toNat = 43 ∨ c.toNat = 45) := by omega
    have hn45 : ¬ c.toNat = 45 := by omega
    have h3 : Lib.atoiAll (c :: r) = .ok (numV (c :: r) : Int) := by
      simp only [Lib.atoiAll, if_neg hn43, Lib.parseMag, if_neg (List.cons_ne_nil c r), h1]
      rw [if_neg (by simp only [hn45, not_false_eq_true, true_and]; show ¬ 9223372036854775808 ≤ numV (c :: r); omega), if_neg (by simp [hn45]), if_neg hn45]
      rfl
    unfold valA
    rw [h3]
theorem dig_back {c : UInt8} (h : dig c = true) : UInt8.ofNat (48 + (c.toNat - 48)) = c := by
  have := dig_iff.1 h
  rw [show 48 + (c.toNat - 48) = c.toNat by omega]
  simp
theorem dec_numV : ∀ (n : Nat) (l : List UInt8), l.length = n + 1 → l.all dig = true → (l.head? = some 48 → l = [48]) → Lib.decDigits (numV l) = l
  | 0, l, hl, ha, _ => by
    match l, hl with
    | [c], _ =>
      have hd : dig c = true := by simpa using ha
      have := dig_iff.1 hd
      have e : numV [c] = c.toNat - 48 := by simp [numV, numF]
      rw [e, Lib.decDigits_one (by omega), dig_back hd]
  | n + 1, l, hl, ha, hh => by
    rcases List.eq_nil_or_concat l with rfl | ⟨l', c, rfl⟩
    · simp at hl
    · simp only [List.concat_eq_append] at hl ha hh ⊢
      rw [List.all_append, Bool.and_eq_true] at ha
      have hd : dig c = true := by simpa using ha.2
      have hdi := dig_iff.1 hd
      have hl' : l'.length = n + 1 := by simp at hl; exact hl
      have hne : l' ≠ [] := by intro e; rw [e] at hl'; simp at hl'
      have hh' : l'.head? ≠ some 48 := by
        intro e
        have h1 : (l' ++ [c]).head? = some 48 := by
          cases l' with
          | nil => exact absurd rfl hne
          | cons x t => simpa using e
        exact hne (by have := congrArg List.length (hh h1); simp at this; exact this)
      have ih := dec_numV n l' hl' ha.1 (fun e => absurd e hh')
      have hpos : 1 ≤ numV l' := by
        rcases Nat.eq_zero_or_pos (numV l') with h0 | h0
        · rw [h0, Lib.decDigits_one (by omega)] at ih
          exfalso; apply hh'; rw [← ih]; rfl
        · exact h0
      rw [numV_snoc, Lib.decDigits, dif_neg (by omega), show (numV l' * 10 + (c.toNat - 48)) / 10 = numV l' by omega, show (numV l' * 10 + (c.toNat - 48)) % 10 = c.toNat - 48 by omega, ih, dig_back hd]
theorem dec_back (u : Nat) : numV (Lib.decDigits u) = u ∧ (Lib.decDigits u).all dig = true ∧ Lib.decDigits u ≠ [] ∧ ((Lib.decDigits u).head? = some 48 → u = 0) := by
  induction u using Nat.strongRecOn with
  | ind u ih =>
    by_cases h : u < 10
    · rw [Lib.decDigits_one h]
      have e : (UInt8.ofNat (48 + u)).toNat = 48 + u := by simp; omega
      refine ⟨by simp only [numV, numF, List.foldl_cons, List.foldl_nil, e]; omega, ?_, by simp, fun hh => ?_⟩
      · rw [List.all_cons, List.all_nil, Bool.and_true]; exact dig_iff.2 (by omega)
      · have h1 : UInt8.ofNat (48 + u) = 48 := by simpa using hh
        rw [h1] at e
        have : (48 : UInt8).toNat = 48 := rfl
        omega
    · have e : (UInt8.ofNat (48 + u % 10)).toNat = 48 + u % 10 := by simp; omega
      obtain ⟨h1, h2, h3, h4⟩ := ih (u / 10) (by omega)
      rw [Lib.decDigits, dif_neg h]
      refine ⟨by rw [numV_snoc, h1, e]; omega, ?_, by simp, fun hh => ?_⟩
      · rw [List.all_append, h2, List.all_cons, List.all_nil, Bool.and_true, Bool.true_and]; exact dig_iff.2 (by omega)
      · exfalso
        cases hd : Lib.decDigits (u / 10) with
        | nil => exact h3 hd
        | cons x t =>
          rw [hd] at hh h4
          have := h4 (by simpa using hh)
          omega
theorem nDigits_le : ∀ (k u : Nat), u < 10 ^ (k + 1) → Lib.nDigits u ≤ k + 1
  | 0, u, h => by rw [Lib.nDigits_small (by simpa using h)]; omega
  | k + 1, u, h => by
    by_cases h1 : u < 10
    · rw [Lib.nDigits_small h1]; omega
    · rw [Lib.nDigits_big h1]
      have := nDigits_le k (u / 10) (by rw [Nat.pow_succ] at h; omega)
      omega
theorem okB_dec {u : Nat} (h : u ≤ 999999) : okB (Lib.decDigits u) = true := by
  obtain ⟨_, h2, h3, h4⟩ := dec_back u
  have hl : (Lib.decDigits u).length ≤ 6 := by rw [Lib.decDigits_length]; exact nDigits_le 5 u (by omega)
  unfold okB plainB
  rw [h2, decide_eq_true hl]
  have he : (Lib.decDigits u).isEmpty = false := by cases hd : Lib.decDigits u with
    | nil => exact absurd hd h3
    | cons => rfl
  rw [he]
  by_cases hh : (Lib.decDigits u).head? = some 48
  · have := h4 hh
    subst this
    rw [Lib.decDigits_one (show 0 < 10 by omega)]
    rfl
  · simp [hh]
theorem okB_plain {l : List UInt8} (h : okB l = true) : plainB l = true ∧ l.length ≤ 6 ∧ l.all dig = true ∧ l ≠ [] := by
  unfold okB at h
  simp only [Bool.and_eq_true, decide_eq_true_eq] at h
  have hp := h.1.1
  refine ⟨hp, h.1.2, ?_, ?_⟩
  · unfold plainB at hp; rw [Bool.and_eq_true] at hp; exact hp.2
  · intro e; subst e; cases hp
theorem okB_num {l : List UInt8} (h : okB l = true) : numV l ≤ 999999 ∧ Lib.decDigits (numV l) = l ∧ valA l = numV l := by
  obtain ⟨hp, hl, ha, hne⟩ := okB_plain h
  have h1 := numV_lt ha
  have h2 : 10 ^ l.length ≤ 10 ^ 6 := Nat.pow_le_pow_right (by decide) hl
  refine ⟨by omega, ?_, valA_num hp (by omega)⟩
  obtain ⟨n, hn⟩ : ∃ n, l.length = n + 1 := ⟨l.length - 1, by have := List.length_pos_iff.2 hne; omega⟩
  refine dec_numV n l hn ha (fun hh => ?_)
  unfold okB at h
  rw [hh, Bool.and_eq_true] at h
  simpa using h.2
end Go.Proofs.YtijooffpjfhidaaDoor.Vp
end
section
namespace Go.Proofs.YtijooffpjfhidaaDoor.Vp
open Go Go.RowKit Go.Proofs.YtijooffpjfhidaaDoor.Txt Go.Proofs.YtijooffpjfhidaaDoor.Seq
def dl (s : ByteArray) : List UInt8 := s.data.toList
theorem dl_mk (l : List UInt8) : dl (mk l) = l := rfl
theorem mk_dl (s : ByteArray) : mk (dl s) = s := (eq_mk s).symm
def cutL (c : UInt8) : List UInt8 → List UInt8 × List UInt8 × Bool
  | [] => ([], [], false)
  | x :: r => if x = c then ([], r, true) else (x :: (cutL c r).1, (cutL c r).2.1, (cutL c r).2.2)
theorem cutL_index (c : UInt8) : ∀ l : List UInt8, cutL c l = if 0 ≤ Lib.indexByte l c then (l.take (Lib.indexByte l c).toNat, l.drop ((Lib.indexByte l c).toNat + 1), true) else (l, [], false)
  | [] => rfl
  | x :: r => by
    have h := cutL_index c r
    have hge := Lib.indexByte_ge r c
    unfold cutL Lib.indexByte
    by_cases hx : x = c
    · simp [hx]
    · rw [if_neg hx, h]
      by_cases h1 : Lib.indexByte r c = -1
      · simp [hx, h1]
      · have h2 : 0 ≤ Lib.indexByte r c := by omega
        have h3 : (Lib.indexByte r c + 1).toNat = (Lib.indexByte r c).toNat + 1 := by omega
        have h4 : 0 ≤ Lib.indexByte r c + 1 := by omega
        simp [hx, h1, h2, h3, h4]
theorem cutL_len (c : UInt8) : ∀ l : List UInt8, (cutL c l).1.length ≤ l.length ∧ (cutL c l).2.1.length ≤ l.length
  | [] => ⟨Nat.le_refl _, Nat.le_refl _⟩
  | x :: r => by
    have h := cutL_len c r
    unfold cutL
    split
    · simp
    · simp; omega
theorem cutB_eq (s : ByteArray) (c : UInt8) : Cut.cutB s c = (mk (cutL c s.data.toList).1, mk (cutL c s.data.toList).2.1, (cutL c s.data.toList).2.2) := by
  have hlt := Cut.indexByte_lt s.data.toList c
  rw [len] at hlt
  rw [cutL_index]
  unfold Cut.cutB
  split
  · have e1 : s.extract 0 (Lib.indexByte s.data.toList c).toNat = mk (s.data.toList.take (Lib.indexByte s.data.toList c).toNat) := ext (by rw [extract_list]; rfl)
    have e2 : s.extract ((Lib.indexByte s.data.toList c).toNat + 1) s.size = mk (s.data.toList.drop ((Lib.indexByte s.data.toList c).toNat + 1)) := ext (by
      rw [extract_list, List.take_of_length_le (by rw [len]; omega)]; rfl)
    rw [e1, e2]
  · exact congrArg (fun t => (t, _)) (eq_mk s)
theorem cutL_back (c : UInt8) : ∀ l : List UInt8, ((cutL c l).2.2 = true → l = (cutL c l).1 ++ c :: (cutL c l).2.1) ∧ ((cutL c l).2.2 = false → (cutL c l).1 = l ∧ (cutL c l).2.1 = [])
  | [] => ⟨(fun h => by cases h), (fun _ => ⟨rfl, rfl⟩)⟩
  | y :: l => by
    have ih := cutL_back c l
    unfold cutL
    by_cases h : y = c
    · rw [if_pos h]; exact ⟨(fun _ => by simp [h]), (fun h => by cases h)⟩
    · rw [if_neg h]
      exact ⟨(fun hm => by simp only at hm ⊢; rw [List.cons_append, ← ih.1 hm]), (fun hm => by simp only at hm ⊢; rw [(ih.2 hm).1, (ih.2 hm).2]; exact ⟨rfl, rfl⟩)⟩
def cuts (c : UInt8) : List UInt8 → List (List UInt8)
  | [] => [[]]
  | x :: r => if x = c then [] :: cuts c r else (x :: (cuts c r).headD []) :: (cuts c r).tail
theorem cuts_cons (c x : UInt8) (r : List UInt8) : cuts c (x :: r) = if x = c then [] :: cuts c r else (x :: (cuts c r).headD []) :: (cuts c r).tail := rfl
theorem cutL_cons (c x : UInt8) (r : List UInt8) : cutL c (x :: r) = if x = c then ([], r, true) else (x :: (cutL c r).1, (cutL c r).2.1, (cutL c r).2.2) := rfl
def joinC (c : UInt8) : List (List UInt8) → List UInt8
  | [] => []
  | [x] => x
  | x :: y :: t => x ++ c :: joinC c (y :: t)
theorem cuts_ne (c : UInt8) (l : List UInt8) : cuts c l ≠ [] := by
  cases l with
  | nil => simp [cuts]
  | cons x r => rw [cuts_cons]; split <;> simp
theorem cuts_cut (c : UInt8) : ∀ l : List UInt8, cuts c l = (cutL c l).1 :: (if (cutL c l).2.2 = true then cuts c (cutL c l).2.1 else [])
  | [] => rfl
  | x :: r => by
    have ih := cuts_cut c r
    rw [cuts_cons, cutL_cons]
    by_cases h : x = c
    · simp [h]
    · simp only [if_neg h]
      conv => lhs; rw [ih]
      rfl
theorem cutL_lt (c : UInt8) (l : List UInt8) (h : (cutL c l).2.2 = true) : (cutL c l).1.length + (cutL c l).2.1.length + 1 = l.length := by
  have := congrArg List.length ((cutL_back c l).1 h)
  simp at this
  omega
theorem joinC_cons (c : UInt8) (x : List UInt8) {t : List (List UInt8)} (h : t ≠ []) : joinC c (x :: t) = x ++ c :: joinC c t := by
  cases t with
  | nil => exact absurd rfl h
  | cons y t => rfl
theorem joinC_head (c a : UInt8) (x : List UInt8) (t : List (List UInt8)) : joinC c ((a :: x) :: t) = a :: joinC c (x :: t) := by
  cases t <;> rfl
theorem cuts_join (c : UInt8) : ∀ l : List UInt8, joinC c (cuts c l) = l
  | [] => rfl
  | x :: r => by
    have ih := cuts_join c r
    rw [cuts_cons]
    by_cases h : x = c
    · rw [if_pos h, joinC_cons c [] (cuts_ne c r), ih, h]; rfl
    · rw [if_neg h, joinC_head]
      cases hc : cuts c r with
      | nil => exact absurd hc (cuts_ne c r)
      | cons y t => rw [hc] at ih; simp only [List.headD_cons, List.tail_cons]; rw [ih]
theorem cuts_len (c : UInt8) : ∀ l : List UInt8, (cuts c l).length ≤ l.length + 1
  | [] => by simp [cuts]
  | x :: r => by
    have ih := cuts_len c r
    rw [cuts_cons]
    split
    · simp; omega
    · simp; omega
theorem cuts_le (c : UInt8) : ∀ (l : List UInt8), ∀ x ∈ cuts c l, x.length ≤ l.length
  | [], x, hx => by simp [cuts] at hx; subst hx; simp
  | y :: r, x, hx => by
    have ih := cuts_le c r
    rw [cuts_cons] at hx
    split at hx
    · rcases List.mem_cons.1 hx with rfl | hx
      · simp
      · have := ih x hx; simp; omega
    · cases hc : cuts c r with
      | nil => exact absurd hc (cuts_ne c r)
      | cons z t =>
        rw [hc] at hx ih
        rcases List.mem_cons.1 hx with rfl | hx
        · have := ih z List.mem_cons_self; simp; omega
        · have := ih x (List.mem_cons_of_mem _ hx); simp; omega
theorem cutsF_eq (c : UInt8) : ∀ (k : Nat) (s : ByteArray), s.size < k → (cutsF c k s).map dl = cuts c (dl s)
  | 0, s, h => by omega
  | k + 1, s, h => by
    have hz := (cutB_size s c).2.2
    have hb := cutB_eq s c
    rw [cuts_cut]
    simp only [cutsF, List.map_cons]
    rw [hb] at hz ⊢
    simp only at hz ⊢
    congr 1
    change List.map dl (if (cutL c (dl s)).2.2 = true then _ else _) = _
    by_cases hm : (cutL c (dl s)).2.2 = true
    · rw [if_pos hm, if_pos hm, cutsF_eq c k _ (by have := hz hm; rw [mk_size] at this ⊢; change _ + (cutL c (dl s)).2.1.length < _ at this; change (cutL c (dl s)).2.1.length < k; omega)]
      rfl
    · rw [if_neg hm, if_neg hm]; rfl
theorem cutsL_eq (c : UInt8) (s : ByteArray) : (cutsL c s).map dl = cuts c (dl s) := cutsF_eq c _ s (by omega)
theorem cutsL_mk (c : UInt8) (s : ByteArray) : cutsL c s = (cuts c (dl s)).map mk := by
  rw [← cutsL_eq, List.map_map]
  conv => lhs; rw [← List.map_id (cutsL c s)]
  exact List.map_congr_left fun x _ => (mk_dl x).symm
end Go.Proofs.YtijooffpjfhidaaDoor.Vp
end
section
namespace Go.Proofs.YtijooffpjfhidaaDoor.Vp
open Go Go.RowKit Go.Proofs.YtijooffpjfhidaaDoor.Txt Go.Proofs.YtijooffpjfhidaaDoor.Trim Go.Proofs.YtijooffpjfhidaaDoor.Num
set_option linter.unusedVariables false
structure Ord3 {α : Type} (P : α → Prop) (f : α → α → Int) : Prop where
  rng : ∀ a b, f a b = -1 ∨ f a b = 0 ∨ f a b = 1
  anti : ∀ a b, f a b = - f b a
  zero : ∀ a b, P a → P b → f a b = 0 → a = b
  trans : ∀ a b c, P a → P b → P c → f a b = -1 → f b c = -1 → f a c = -1
theorem Ord3.refl {α : Type} {P : α → Prop} {f : α → α → Int} (h : Ord3 P f) (a : α) : f a a = 0 := by have := h.anti a a; omega
theorem Ord3.weak {α : Type} {P Q : α → Prop} {f : α → α → Int} (h : Ord3 P f) (hq : ∀ a, Q a → P a) : Ord3 Q f :=
  ⟨h.rng, h.anti, fun a b ha hb => h.zero a b (hq a ha) (hq b hb), fun a b c ha hb hc => h.trans a b c (hq a ha) (hq b hb) (hq c hc)⟩
theorem Ord3.by_ {α β : Type} {P : α → Prop} {f : α → α → Int} (h : Ord3 P f) (g : β → α) (Q : β → Prop) (hq : ∀ b, Q b → P (g b)) (hg : ∀ a b, Q a → Q b → g a = g b → a = b) : Ord3 Q (fun a b => f (g a) (g b)) :=
  ⟨fun a b => h.rng _ _, fun a b => h.anti _ _, fun a b ha hb e => hg a b ha hb (h.zero _ _ (hq a ha) (hq b hb) e), fun a b c ha hb hc => h.trans _ _ _ (hq a ha) (hq b hb) (hq c hc)⟩
def cmpI (a b : Int) : Int := if a < b then -1 else if b < a then 1 else 0
theorem cmpI_ord : Ord3 (fun _ => True) cmpI where
  rng a b := by
    unfold cmpI
    by_cases h : a < b
    · simp [h]
    · by_cases h2 : b < a <;> simp [h, h2]
  anti a b := by
    unfold cmpI
    by_cases h : a < b
    · have h2 : ¬ b < a := by omega
      simp [h, h2]
    · by_cases h2 : b < a <;> simp [h, h2]
  zero a b _ _ h := by
    unfold cmpI at h
    by_cases h1 : a < b
    · rw [if_pos h1] at h; omega
    · rw [if_neg h1] at h
      by_cases h2 : b < a
      · rw [if_pos h2] at h; omega
      · omega
  trans a b c _ _ _ h1 h2 := by
    have hab : a < b := by
      unfold cmpI at h1; split at h1
      · assumption
      · split at h1 <;> omega
    have hbc : b < c := by
      unfold cmpI at h2; split at h2
      · assumption
      · split at h2 <;> omega
    unfold cmpI; rw [if_pos (by omega)]
def rowsL {α : Type} (f : α → α → Int) : List α → List α → Int
  | [], [] => 0
  | [], _ :: _ => -1
  | _ :: _, [] => 1
  | x :: a, y :: b => if f x y = 0 then rowsL f a b else f x y
section
variable {α : Type} {P : α → Prop} {f : α → α → Int}
theorem rowsL_rng (h : Ord3 P f) : ∀ a b, rowsL f a b = -1 ∨ rowsL f a b = 0 ∨ rowsL f a b = 1
  | [], [] => by simp [rowsL]
  | [], _ :: _ => by simp [rowsL]
  | _ :: _, [] => by simp [rowsL]
  | x :: a, y :: b => by
    unfold rowsL
    split
    · exact rowsL_rng h a b
    · exact h.rng x y
theorem rowsL_anti (h : Ord3 P f) : ∀ a b, rowsL f a b = - rowsL f b a
  | [], [] => by simp [rowsL]
  | [], _ :: _ => by simp [rowsL]
  | _ :: _, [] => by simp [rowsL]
  | x :: a, y :: b => by
    have h1 := h.anti x y
    have ih := rowsL_anti h a b
    unfold rowsL
    split <;> split <;> omega
theorem rowsL_zero (h : Ord3 P f) : ∀ a b, (∀ x ∈ a, P x) → (∀ x ∈ b, P x) → rowsL f a b = 0 → a = b
  | [], [], _, _, _ => rfl
  | [], _ :: _, _, _, e => by simp [rowsL] at e
  | _ :: _, [], _, _, e => by simp [rowsL] at e
  | x :: a, y :: b, ha, hb, e => by
    unfold rowsL at e
    split at e
    · rename_i h0
      rw [h.zero x y (ha x List.mem_cons_self) (hb y List.mem_cons_self) h0, rowsL_zero h a b (fun z hz => ha z (List.mem_cons_of_mem _ hz)) (fun z hz => hb z (List.mem_cons_of_mem _ hz)) e]
    · contradiction
theorem rowsL_trans (h : Ord3 P f) : ∀ a b c, (∀ x ∈ a, P x) → (∀ x ∈ b, P x) → (∀ x ∈ c, P x) → rowsL f a b = -1 → rowsL f b c = -1 → rowsL f a c = -1
  | [], [], c, _, _, _, e, _ => by simp [rowsL] at e
  | [], _ :: _, [], _, _, _, _, e => by simp [rowsL] at e
  | [], _ :: _, _ :: _, _, _, _, _, _ => by simp [rowsL]
  | _ :: _, [], c, _, _, _, e, _ => by simp [rowsL] at e
  | _ :: _, _ :: _, [], _, _, _, _, e => by simp [rowsL] at e
  | x :: a, y :: b, z :: c, ha, hb, hc, e1, e2 => by
    have px := ha x List.mem_cons_self
    have py := hb y List.mem_cons_self
    have pz := hc z List.mem_cons_self
    unfold rowsL at e1 e2 ⊢
    by_cases h1 : f x y = 0
    · rw [if_pos h1] at e1
      have hxy := h.zero x y px py h1
      rw [hxy]
      by_cases h2 : f y z = 0
      · rw [if_pos h2] at e2 ⊢
        exact rowsL_trans h a b c (fun z hz => ha z (List.mem_cons_of_mem _ hz)) (fun z hz => hb z (List.mem_cons_of_mem _ hz)) (fun z hz => hc z (List.mem_cons_of_mem _ hz)) e1 e2
      · rw [if_neg h2] at e2 ⊢; exact e2
    · rw [if_neg h1] at e1
      by_cases h2 : f y z = 0
      · have := h.zero y z py pz h2
        rw [← this, if_neg h1]; exact e1
      · rw [if_neg h2] at e2
        have := h.trans x y z px py pz e1 e2
        rw [if_neg (by omega)]; exact this
theorem rowsL_ord (h : Ord3 P f) : Ord3 (fun l : List α => ∀ x ∈ l, P x) (rowsL f) := ⟨rowsL_rng h, rowsL_anti h, rowsL_zero h, rowsL_trans h⟩
end
def cmpU (a b : UInt8) : Int := cmpI a.toNat b.toNat
theorem cmpU_ord : Ord3 (fun _ : UInt8 => True) cmpU := cmpI_ord.by_ (fun a : UInt8 => (a.toNat : Int)) _ (fun _ _ => trivial) (fun a b _ _ h => u8_eq.2 h)
def cmpB : List UInt8 → List UInt8 → Int := rowsL cmpU
theorem cmpB_ord : Ord3 (fun _ : List UInt8 => True) cmpB := (rowsL_ord cmpU_ord).weak (fun _ _ _ _ => trivial)
theorem less_cmpB : ∀ a b : List UInt8, Op.bytesLess a b = decide (cmpB a b = -1)
  | [], [] => rfl
  | [], _ :: _ => rfl
  | _ :: _, [] => rfl
  | x :: a, y :: b => by
    have ih := less_cmpB a b
    unfold cmpB at ih ⊢
    unfold rowsL
    simp only [Op.bytesLess]
    rw [ih]
    unfold cmpU cmpI
    have e1 : decide (x < y) = decide ((x.toNat : Int) < y.toNat) := by rw [decide_eq_decide, UInt8.lt_iff_toNat_lt]; omega
    by_cases h : (x.toNat : Int) < y.toNat
    · rw [e1]; simp [h]
    · by_cases h2 : (y.toNat : Int) < x.toNat
      · have : (x == y) = false := by simpa using fun e : x = y => by rw [e] at h2; omega
        rw [e1]; simp [h, h2, this]
      · have hxy : x = y := u8_eq.2 (by omega)
        rw [e1]; simp [hxy]
def partsC (a b : List UInt8) : Int :=
  if plainB a = true ∧ plainB b = true then cmpI (numV a) (numV b) else if plainB a = true then -1 else if plainB b = true then 1 else cmpB a b
def Okp (l : List UInt8) : Prop := plainB l = true → okB l = true
abbrev Ver := Int × Int × Int × ByteArray
def mayN (n : Int) : Bool := decide (0 ≤ n ∧ n ≤ 999999)
def letter (c : UInt8) : Bool := decide ((97 ≤ c.toNat ∧ c.toNat ≤ 122) ∨ (65 ≤ c.toNat ∧ c.toNat ≤ 90) ∨ (48 ≤ c.toNat ∧ c.toNat ≤ 57) ∨ c.toNat = 45)
def partB (l : List UInt8) : Bool := !l.isEmpty && decide (l.length ≤ 10) && l.all letter && (!plainB l || okB l)
def preB (l : List UInt8) : Bool := l.isEmpty || ((cuts 46 l).all partB && decide ((cuts 46 l).length ≤ 5))
def rightB (v : Ver) : Bool := mayN v.1 && mayN v.2.1 && mayN v.2.2.1 && preB (dl v.2.2.2)
def cmpP (a b : List UInt8) : Int := if a = b then 0 else if a = [] then 1 else if b = [] then -1 else rowsL partsC (cuts 46 a) (cuts 46 b)
def cmpV (a b : Ver) : Int := if cmpI a.1 b.1 = 0 then (if cmpI a.2.1 b.2.1 = 0 then (if cmpI a.2.2.1 b.2.2.1 = 0 then cmpP (dl a.2.2.2) (dl b.2.2.2) else cmpI a.2.2.1 b.2.2.1) else cmpI a.2.1 b.2.1) else cmpI a.1 b.1
theorem preB_parts {l : List UInt8} (h : preB l = true) (hne : l ≠ []) : ∀ x ∈ cuts 46 l, Okp x := by
  intro x hx
  unfold preB at h
  have : l.isEmpty = false := by cases l with
    | nil => exact absurd rfl hne
    | cons => rfl
  rw [this, Bool.false_or, Bool.and_eq_true, List.all_eq_true] at h
  have := h.1 x hx
  unfold partB at this
  intro hp
  rw [hp] at this
  simpa using (Bool.and_eq_true _ _ ▸ this).2
end Go.Proofs.YtijooffpjfhidaaDoor.Vp
end
section
namespace Go.Proofs.YtijooffpjfhidaaDoor.Txt
open Go Go.RowKit Go.Proofs.YtijooffpjfhidaaDoorW.PrintWords
structure Lt {α : Type} (l : List α) (i : Int) (r : List α) : Prop where
  ge : 0 ≤ i
  le : i ≤ l.length
  eq : l.drop i.toNat = r
section
variable {α : Type} {l r : List α} {i : Int} {x : α}
theorem Lt.zero (l : List α) : Lt l 0 l := ⟨by omega, by omega, rfl⟩
theorem Lt.length (h : Lt l i r) : (r.length : Int) = l.length - i := by
  have h1 := h.ge
  have h2 := h.le
  rw [← h.eq, List.length_drop]
  omega
theorem Lt.not_lt (h : Lt l i []) : ¬ i < l.length := by have := h.length; simp at this; omega
theorem Lt.lt (h : Lt l i (x :: r)) : i < l.length := by have := h.length; simp at this; omega
theorem Lt.get (h : Lt l i (x :: r)) : l[i.toNat]? = some x := by
  have := congrArg (·[0]?) h.eq
  simpa using this
theorem Lt.rd (h : Lt l i (x :: r)) (d : α) : rdOf d l i = x := by
  unfold rdOf
  rw [List.getD_eq_getElem?_getD, h.get]; rfl
theorem Lt.next (h : Lt l i (x :: r)) : Lt l (i + 1) r := by
  have h1 := h.lt
  have h0 := h.ge
  refine ⟨by omega, by omega, ?_⟩
  rw [show (i + 1).toNat = i.toNat + 1 by omega, ← List.drop_drop, h.eq]
  rfl
theorem Lt.wrap (h : Lt l i (x :: r)) (hs : l.length ≤ 4611686018427387904) : wrap64 (i + 1) = i + 1 := by
  have h1 := h.lt
  have h0 := h.ge
  unfold wrap64
  omega
end
theorem wrapS {x : Int} (h0 : 0 ≤ x) (h1 : x ≤ 4294967296) : wrap64 x = x := by unfold wrap64; omega
theorem pred {k n : Nat} (h : n < k) : ∃ m, k = m + 1 ∧ n ≤ m := ⟨k - 1, by omega, by omega⟩
end Go.Proofs.YtijooffpjfhidaaDoor.Txt
end
section
namespace Go.Proofs.YtijooffpjfhidaaDoor.Vp
open Go Go.RowKit Go.Proofs.YtijooffpjfhidaaDoorW.PrintWords Go.Proofs.YtijooffpjfhidaaDoor.Txt Go.Proofs.YtijooffpjfhidaaDoor.Trim Go.Proofs.YtijooffpjfhidaaDoor.Num Go.Proofs.YtijooffpjfhidaaDoor.Seq Go.Proofs.YtijooffpjfhidaaDoor.G
theorem dl_len (s : ByteArray) : (dl s).length = s.size := len s
theorem ne_nil (l : List UInt8) : (l != []) = !l.isEmpty := by cases l <;> rfl
theorem At0 (s : ByteArray) : At s 0 (dl s) := At.zero s
end Go.Proofs.YtijooffpjfhidaaDoor.Vp
end
section
namespace Go.Proofs.YtijooffpjfhidaaDoor.Vp
open Go Go.RowKit Go.Proofs.YtijooffpjfhidaaDoor.Txt Go.Proofs.YtijooffpjfhidaaDoor.Trim Go.Proofs.YtijooffpjfhidaaDoor.Num
def zeroV : Ver := (0, 0, 0, mk [])
def told (v : Ver) : List UInt8 := Lib.decDigits v.1.toNat ++ 46 :: (Lib.decDigits v.2.1.toNat ++ 46 :: Lib.decDigits v.2.2.1.toNat) ++ (if dl v.2.2.2 = [] then [] else 45 :: dl v.2.2.2)
def printP (v : Ver) : List UInt8 × Bool := if rightB v = true then (told v, true) else ([], false)
def parse3 (more : Bool) (pre : List UInt8) : List (List UInt8) → Ver × Bool
  | [a, b, d] => if (okB a && okB b && okB d && !(more && pre.isEmpty) && preB pre) = true then ((numV a, numV b, numV d, mk pre), true) else (zeroV, false)
  | _ => (zeroV, false)
theorem parse3_three (more : Bool) (pre a b d : List UInt8) : parse3 more pre [a, b, d] = if (okB a && okB b && okB d && !(more && pre.isEmpty) && preB pre) = true then ((((numV a : Int), (numV b : Int), (numV d : Int), mk pre) : Ver), true) else (zeroV, false) := rfl
def parseP (s : List UInt8) : Ver × Bool := parse3 (cutL 45 s).2.2 (cutL 45 s).2.1 (cuts 46 (cutL 45 s).1)
theorem mayN_iff {n : Int} : mayN n = true ↔ 0 ≤ n ∧ n ≤ 999999 := by unfold mayN; simp
theorem right_nums {v : Ver} (h : rightB v = true) : (0 ≤ v.1 ∧ v.1 ≤ 999999) ∧ (0 ≤ v.2.1 ∧ v.2.1 ≤ 999999) ∧ (0 ≤ v.2.2.1 ∧ v.2.2.1 ≤ 999999) ∧ preB (dl v.2.2.2) = true := by
  unfold rightB at h
  simp only [Bool.and_eq_true] at h
  exact ⟨mayN_iff.1 h.1.1.1, mayN_iff.1 h.1.1.2, mayN_iff.1 h.1.2, h.2⟩
theorem parse3_cases (more : Bool) (pre : List UInt8) (l : List (List UInt8)) : (∃ a b d, l = [a, b, d]) ∨ (l.length ≠ 3 ∧ parse3 more pre l = (zeroV, false)) := by
  match l with
  | [] => exact .inr ⟨by simp, rfl⟩
  | [_] => exact .inr ⟨by simp, rfl⟩
  | [_, _] => exact .inr ⟨by simp, rfl⟩
  | [a, b, d] => exact .inl ⟨a, b, d, rfl⟩
  | _ :: _ :: _ :: _ :: _ => exact .inr ⟨by simp, rfl⟩
theorem told_parts {s : List UInt8} {a b d : List UInt8} (hc : cuts 46 (cutL 45 s).1 = [a, b, d]) (ha : okB a = true) (hb : okB b = true) (hd : okB d = true) :
    told ((numV a : Int), (numV b : Int), (numV d : Int), mk (cutL 45 s).2.1) = (cutL 45 s).1 ++ (if (cutL 45 s).2.1 = [] then [] else 45 :: (cutL 45 s).2.1) := by
  have hf := cuts_join 46 (cutL 45 s).1
  rw [hc] at hf
  unfold told
  simp only [Int.toNat_natCast, (okB_num ha).2.1, (okB_num hb).2.1, (okB_num hd).2.1, dl_mk]
  rw [← hf]
  rfl
theorem parse_right {s : List UInt8} {v : Ver} (h : parseP s = (v, true)) : rightB v = true ∧ told v = s := by
  unfold parseP at h
  rcases parse3_cases (cutL 45 s).2.2 (cutL 45 s).2.1 (cuts 46 (cutL 45 s).1) with ⟨a, b, d, hc⟩ | ⟨_, hn⟩
  · have ht := @told_parts s a b d hc
    rw [hc, parse3_three] at h
    split at h
    · rename_i hb
      simp only [Bool.and_eq_true] at hb
      obtain ⟨⟨⟨⟨ha, hb⟩, hd⟩, hm⟩, hp⟩ := hb
      obtain rfl := (Prod.mk.inj h).1
      have na := okB_num ha
      have nb := okB_num hb
      have nd := okB_num hd
      refine ⟨?_, ?_⟩
      · unfold rightB
        simp only [dl_mk, hp, Bool.and_true, Bool.and_eq_true, mayN_iff]
        omega
      · rw [ht ha hb hd]
        have hk := cutL_back 45 s
        cases hmm : (cutL 45 s).2.2 with
        | true =>
          rw [hmm] at hm
          have hne : (cutL 45 s).2.1 ≠ [] := by
            intro e
            rw [e] at hm
            cases hm
          rw [if_neg hne]
          exact (hk.1 hmm).symm
        | false =>
          have := hk.2 hmm
          rw [this.2, if_pos rfl, List.append_nil]
          exact this.1
    · cases (Prod.mk.inj h).2
  · rw [hn] at h
    cases (Prod.mk.inj h).2
theorem parse_none {s : List UInt8} {v : Ver} (h : parseP s = (v, false)) : v = zeroV := by
  unfold parseP at h
  rcases parse3_cases (cutL 45 s).2.2 (cutL 45 s).2.1 (cuts 46 (cutL 45 s).1) with ⟨a, b, d, hc⟩ | ⟨_, hn⟩
  · rw [hc, parse3_three] at h
    split at h
    · cases (Prod.mk.inj h).2
    · exact (Prod.mk.inj h).1.symm
  · rw [hn] at h
    exact (Prod.mk.inj h).1.symm
end Go.Proofs.YtijooffpjfhidaaDoor.Vp
end
section
namespace Go.Proofs.YtijooffpjfhidaaDoor.Vp
open Go Go.RowKit Go.Proofs.YtijooffpjfhidaaDoorW.PrintWords Go.Proofs.YtijooffpjfhidaaDoor.Txt Go.Proofs.YtijooffpjfhidaaDoor.Trim Go.Proofs.YtijooffpjfhidaaDoor.Num Go.Proofs.YtijooffpjfhidaaDoor.Seq Go.Proofs.YtijooffpjfhidaaDoor.G
def flat5 (R : Ver × Bool) : Int × Int × Int × ByteArray × Bool := (R.1.1, R.1.2.1, R.1.2.2.1, R.1.2.2.2, R.2)
theorem e46 : (⟨#[46]⟩ : ByteArray) = mk [46] := rfl
theorem e45 : (⟨#[45]⟩ : ByteArray) = mk [45] := rfl
theorem e0 : (⟨#[]⟩ : ByteArray) = mk [] := rfl
theorem dec_len {n : Nat} (h : n ≤ 999999) : (Lib.decDigits n).length ≤ 6 := (okB_plain (okB_dec h)).2.1
theorem cmpB_less (a b : List UInt8) : (if Op.bytesLess a b = true then some (-1) else if Op.bytesLess b a = true then some 1 else some (0 : Int)) = some (cmpB a b) := by
  rw [less_cmpB, less_cmpB, cmpB_ord.anti b a]
  rcases cmpB_ord.rng a b with h | h | h <;> rw [h] <;> rfl
theorem map_dl_mk (l : List (List UInt8)) : (l.map mk).map dl = l := by
  rw [List.map_map]
  exact (List.map_congr_left (fun _ _ => rfl)).trans (List.map_id l)
def cmpT (v w : Ver) : Int := if rightB v = true ∧ rightB w = true then cmpV v w else 0
end Go.Proofs.YtijooffpjfhidaaDoor.Vp
end
section
namespace Go.Proofs.YtijooffpjfhidaaDoor.Vp
open Go Go.RowKit Go.Proofs.YtijooffpjfhidaaDoorW.PrintWords Go.Proofs.YtijooffpjfhidaaDoor.Txt Go.Proofs.YtijooffpjfhidaaDoor.Trim Go.Proofs.YtijooffpjfhidaaDoor.Num Go.Proofs.YtijooffpjfhidaaDoor.Seq Go.Proofs.YtijooffpjfhidaaDoor.G Go.Proofs.YtijooffpjfhidaaDoor.Cut
theorem count_cuts (c : UInt8) : ∀ l : List UInt8, (cuts c l).length = Lib.countByte l c + 1
  | [] => rfl
  | x :: r => by
    have ih := count_cuts c r
    unfold Lib.countByte at ih ⊢
    rw [cuts_cons, List.count_cons]
    by_cases h : x = c
    · rw [if_pos h, if_pos (by simpa using h), List.length_cons, ih]
    · rw [if_neg h, if_neg (by simpa using h), List.length_cons, List.length_tail, ih]; omega
theorem idx_eq (s : ByteArray) : strings_Index.f s ⟨#[46]⟩ = some (Lib.indexByte (dl s) 46) := by
  unfold strings_Index.f
  exact if_pos rfl
theorem cnt_eq (s : ByteArray) : strings_Count.f s ⟨#[46]⟩ = some ((Lib.countByte (dl s) 46 : Nat) : Int) := by
  unfold strings_Count.f
  exact if_pos rfl
theorem scut_eq (s : ByteArray) (hs : s.size ≤ 9223372036854775807) : strings_Cut.f s ⟨#[45]⟩ = some (Cut.cutB s 45) := by
  unfold strings_Cut.f
  exact (if_pos rfl).trans (if_pos hs)
theorem wrapN (q : Nat) (h : q ≤ 4294967290) : wrap64 ((q : Int) + 1) = ((q + 1 : Nat) : Int) := by rw [wrapS (by omega) (by omega)]; omega
theorem set_take {α : Type} (L : List α) (i : Nat) (x : α) (h : i < L.length) : (L.set i x).take (i + 1) = L.take i ++ [x] := by
  rw [List.take_add_one, List.take_set_of_le (Nat.le_refl i), List.getElem?_set_self h]
  rfl
theorem split_step (k q i n : Nat) (t x1 x2 : ByteArray) (L : List ByteArray) (hidx : Lib.indexByte (dl t) 46 = (q : Int)) (h1 : t.extract 0 q = x1) (h2 : t.extract (q + 1) t.size = x2) (hq : q < t.size) (hs : t.size ≤ 2147483647) (hi : i < n) (hL : i < L.length) (hn : i ≤ 2147483647) :
    strings_genSplit.l0 (k + 1) t ⟨#[46]⟩ 0 (n : Int) L (i : Int) = strings_genSplit.l0 k x2 ⟨#[46]⟩ 0 (n : Int) (L.set i x1) ((i + 1 : Nat) : Int) := by
  have w0 : wrap64 ((q : Int) + 0) = q := by rw [Int.add_zero]; exact wrapS (by omega) (by omega)
  have w1 := wrapN q (by omega)
  have w2 := wrapN i (by omega)
  have c1 : (i : Int) < (n : Int) := by omega
  have c2 : ¬ (q : Int) < 0 := by omega
  have c3 : 0 ≤ (q : Int) := by omega
  have c4 : (q : Int) ≤ t.size := by omega
  have c5 : 0 ≤ (i : Int) := by omega
  have c6 : (i : Int) < (L.length : Int) := by omega
  have c7 : 0 ≤ ((q + 1 : Nat) : Int) := by omega
  have c8 : ((q + 1 : Nat) : Int) ≤ t.size := by omega
  have e1 : (q : Int).toNat = q := by omega
  have e2 : ((q + 1 : Nat) : Int).toNat = q + 1 := by omega
  have e3 : (i : Int).toNat = i := by omega
  simp only [strings_genSplit.l0]
  rw [if_pos c1, idx_eq, hidx, Option.bind_some, if_neg c2, w0, if_pos c3, if_pos c4, if_pos c5, if_pos c6, show (((⟨#[46]⟩ : ByteArray).size : Nat) : Int) = 1 from rfl, w1, if_pos c7, if_pos c8, w2, e1, e2, e3, h1, h2]
theorem split_loop : ∀ (j k : Nat) (t : ByteArray) (L : List ByteArray) (i : Nat), (cuts 46 (dl t)).length = j + 1 → L.length = i + j + 1 → i + j ≤ 2147483647 → t.size ≤ 2147483647 → j < k →
    strings_genSplit.l0 k t ⟨#[46]⟩ 0 ((i + j : Nat) : Int) L (i : Int) = some (L.take i ++ (cuts 46 (dl t)).map mk)
  | 0, k, t, L, i, hc, hL, hb, hs, hk => by
    obtain ⟨k, rfl, hk'⟩ := pred hk
    have hw : wrap64 ((i : Int) + 1) = i + 1 := wrapS (by omega) (by omega)
    simp only [strings_genSplit.l0]
    rw [if_neg (by omega), if_pos (by omega), if_pos (by omega), hw, if_pos (by omega), if_pos (by omega)]
    have e1 : (i : Int).toNat = i := by omega
    have e2 : ((i : Int) + 1).toNat = i + 1 := by omega
    rw [e1, e2, set_take _ _ _ (by omega)]
    have hcc := cuts_cut 46 (dl t)
    have hb2 := cutL_back 46 (dl t)
    cases hm : (cutL 46 (dl t)).2.2 with
    | true =>
      rw [hm, if_pos rfl] at hcc
      rw [hcc, List.length_cons] at hc
      have := List.length_pos_iff.2 (cuts_ne 46 (cutL 46 (dl t)).2.1)
      omega
    | false =>
      rw [hm, if_neg (by decide)] at hcc
      rw [hcc, (hb2.2 hm).1]
      simp [mk_dl]
  | j + 1, k, t, L, i, hc, hL, hb, hs, hk => by
    obtain ⟨k, rfl, hk'⟩ := pred hk
    have hcc := cuts_cut 46 (dl t)
    have hidx := cutL_index 46 (dl t)
    have hcb : Cut.cutB t 46 = (mk (cutL 46 (dl t)).1, mk (cutL 46 (dl t)).2.1, (cutL 46 (dl t)).2.2) := cutB_eq t 46
    have hlt := Cut.indexByte_lt t.data.toList 46
    rw [len] at hlt
    cases hm : (cutL 46 (dl t)).2.2 with
    | false =>
      rw [hm, if_neg (by decide)] at hcc
      rw [hcc] at hc
      simp at hc
    | true =>
      rw [hm, if_pos rfl] at hcc
      have hge : 0 ≤ Lib.indexByte (dl t) 46 := by
        apply Classical.byContradiction
        intro hn
        rw [if_neg hn] at hidx
        rw [hidx] at hm
        cases hm
      unfold Cut.cutB at hcb
      rw [if_pos (show 0 ≤ Lib.indexByte t.data.toList 46 from hge)] at hcb
      have h1 := (Prod.mk.inj hcb).1
      have h2 := (Prod.mk.inj (Prod.mk.inj hcb).2).1
      have hlt2 := cutL_lt 46 (dl t) hm
      rw [dl_len] at hlt2
      obtain ⟨q, hq⟩ := Int.eq_ofNat_of_zero_le hge
      have hq' : Lib.indexByte t.data.toList 46 = (q : Int) := hq
      rw [hq'] at h1 h2 hlt
      rw [Int.toNat_natCast] at h1 h2
      have hc2 : (cuts 46 (cutL 46 (dl t)).2.1).length = j + 1 := by rw [hcc, List.length_cons] at hc; omega
      have hsz : (mk (cutL 46 (dl t)).2.1).size ≤ 2147483647 := by rw [mk_size]; omega
      have hst := split_step k q i (i + (j + 1)) t _ _ L hq h1 h2 (Int.ofNat_lt.1 hlt) hs (by omega) (by omega) (by omega)
      have ih := split_loop j k (mk (cutL 46 (dl t)).2.1) (L.set i (mk (cutL 46 (dl t)).1)) (i + 1) hc2 (by rw [List.length_set]; omega) (by omega) hsz (by omega)
      rw [show i + 1 + j = i + (j + 1) by omega] at ih
      rw [hst]
      rw [ih, set_take _ _ _ (by omega), hcc]
      simp [dl_mk]
theorem split_eq (k : Nat) (s : ByteArray) (hs : s.size ≤ 2147483640) (hk : s.size + 10 < k) : strings_Split.f k s ⟨#[46]⟩ = some ((cuts 46 (dl s)).map mk) := by
  have hcnt := count_cuts 46 (dl s)
  have hlen := cuts_len 46 (dl s)
  rw [dl_len] at hlen
  unfold strings_Split.f strings_genSplit.f
  rw [if_neg (by decide), toList_eq, if_neg (by decide), if_pos (by decide)]
  rw [cnt_eq]
  simp only [Option.bind_some]
  change ((strings_genSplit.j0 k s ⟨#[46]⟩ 0 (wrap64 ((Lib.countByte (dl s) 46 : Nat) + 1))).bind _) = _
  obtain ⟨n, hn⟩ : ∃ n, (cuts 46 (dl s)).length = n + 1 := ⟨(cuts 46 (dl s)).length - 1, by have := List.length_pos_iff.2 (cuts_ne 46 (dl s)); omega⟩
  have e1 : wrap64 (((Lib.countByte (dl s) 46 : Nat) : Int) + 1) = ((n + 1 : Nat) : Int) := by rw [wrapS (by omega) (by omega)]; omega
  obtain ⟨k, rfl, hk'⟩ := pred hk
  simp only [strings_genSplit.j0]
  have e2 : wrap64 ((s.size : Int) + 1) = s.size + 1 := wrapS (by omega) (by omega)
  have e3 : mn ((n + 1 : Nat) : Int) ((s.size : Int) + 1) = ((n + 1 : Nat) : Int) := by unfold mn; rw [if_neg (by omega)]
  have e4 : wrap64 (((n + 1 : Nat) : Int) - 1) = ((0 + n : Nat) : Int) := by rw [wrapS (by omega) (by omega)]; omega
  rw [e1, e2, e3, e4, if_pos (by omega), if_pos (by omega)]
  have e5 : (((n + 1 : Nat) : Int)).toNat = n + 1 := by omega
  rw [e5]
  have := split_loop n k s (List.replicate (n + 1) (⟨#[]⟩ : ByteArray)) 0 hn (by simp) (by omega) (by omega) (by omega)
  rw [show ((0 : Nat) : Int) = 0 from rfl] at this
  rw [this]
  simp
theorem or32 : ∀ d : Fin 256, (Go.bits .or .u8 (d.val : Int) 32 ≥ 97 ∧ Go.bits .or .u8 (d.val : Int) 32 ≤ 122) ↔ ((97 ≤ d.val ∧ d.val ≤ 122) ∨ (65 ≤ d.val ∧ d.val ≤ 90)) := by decide +kernel
theorem ppart_step (k : Nat) {s : ByteArray} {i : Int} {c : UInt8} {r : List UInt8} (h : At s i (c :: r)) (hs : s.size ≤ 4611686018427387904) :
    version_part.l0 (k + 1) s s.size i = if letter c = true then version_part.l0 k s s.size (i + 1) else some false := by
  simp only [version_part.l0]
  rw [if_pos h.lt, if_pos h.ge, if_pos h.lt, h.byte, h.wrap hs]
  generalize version_part.l0 k s s.size (i + 1) = X
  have ho := or32 ⟨c.toNat, UInt8.toNat_lt c⟩
  simp only at ho
  have hl : letter c = decide ((97 ≤ (c.toNat : Int) ∧ (c.toNat : Int) ≤ 122) ∨ (65 ≤ (c.toNat : Int) ∧ (c.toNat : Int) ≤ 90) ∨ (48 ≤ (c.toNat : Int) ∧ (c.toNat : Int) ≤ 57) ∨ (c.toNat : Int) = 45) := by
    unfold letter; rw [decide_eq_decide]; omega
  rw [hl]
  clear hl h
  generalize Go.bits .or .u8 (c.toNat : Int) 32 = o at *
  have ho' : (o ≥ 97 ∧ o ≤ 122) ↔ ((97 ≤ (c.toNat : Int) ∧ (c.toNat : Int) ≤ 122) ∨ (65 ≤ (c.toNat : Int) ∧ (c.toNat : Int) ≤ 90)) := by rw [ho]; omega
  clear ho
  generalize (c.toNat : Int) = d at *
  by_cases hL : (97 ≤ d ∧ d ≤ 122) ∨ (65 ≤ d ∧ d ≤ 90) ∨ (48 ≤ d ∧ d ≤ 57) ∨ d = 45
  · simp only [decide_eq_true hL, if_true]
    repeat' split
    all_goals first | rfl | (exfalso; omega)
  · simp only [decide_eq_false hL, Bool.false_eq_true, if_false]
    repeat' split
    all_goals first | rfl | (exfalso; omega)
theorem number_eq (s : ByteArray) (hs : s.size ≤ 281474976710656) : version_number.f s = some (valA (dl s), plainB (dl s), okB (dl s)) := if_pos hs
theorem plain_ok (l : List UInt8) : (plainB l == okB l) = (!plainB l || okB l) := by
  cases hp : plainB l
  · have : okB l = false := by unfold okB; rw [hp]; rfl
    rw [this]; rfl
  · cases okB l <;> rfl
theorem ppart_loop : ∀ (r : List UInt8) (k : Nat) (s : ByteArray) (i : Int), At s i r → s.size ≤ 281474976710656 → r.length < k →
    version_part.l0 k s s.size i = some (r.all letter && (!(dl s).isEmpty && decide (s.size ≤ 10) && (!plainB (dl s) || okB (dl s))))
  | [], k, s, i, h, hs, hk => by
    obtain ⟨k, rfl, hk'⟩ := pred hk
    simp only [version_part.l0]
    rw [if_neg h.not_lt, number_eq s hs]
    simp only [Option.bind_some, toList_eq, plain_ok]
    change (if dl s = [] then _ else _) = _
    by_cases he : dl s = []
    · rw [if_pos he, he]; rfl
    · rw [if_neg he]
      have : (dl s).isEmpty = false := by cases hd : dl s with
        | nil => exact absurd hd he
        | cons => rfl
      rw [this]
      by_cases h10 : s.size ≤ 10
      · rw [if_pos (by omega), decide_eq_true h10]; rfl
      · rw [if_neg (by omega), decide_eq_false h10]; rfl
  | c :: r, k, s, i, h, hs, hk => by
    obtain ⟨k, rfl, hk'⟩ := pred hk
    rw [ppart_step k h (by omega), List.all_cons]
    cases letter c
    · simp
    · rw [if_pos rfl, ppart_loop r k s (i + 1) h.next hs (by simp at hk'; omega)]; rfl
theorem part_eq (k : Nat) (s : ByteArray) (hs : s.size ≤ 281474976710656) (hk : s.size < k) : version_part.f k s = some (partB (dl s)) := by
  unfold version_part.f
  rw [ppart_loop (dl s) k s 0 (At0 s) hs (by rw [dl_len]; exact hk)]
  unfold partB
  rw [dl_len]
  congr 1
  cases (dl s).isEmpty <;> cases decide (s.size ≤ 10) <;> cases (dl s).all letter <;> cases plainB (dl s) <;> cases okB (dl s) <;> rfl
theorem within_one (k : Nat) (l : List Int) (i : Int) (x : Int) (r : List Int) (h : Lt l i (x :: r)) (hl : l.length ≤ 100) : version_within.l0 (k + 1) l l.length i = if mayN x = true then version_within.l0 k l l.length (i + 1) else some false := by
  simp only [version_within.l0]
  have hr : rd l i = x := h.rd 0
  rw [if_pos h.lt, if_pos h.ge, if_pos h.lt, hr, h.wrap (by omega)]
  by_cases h1 : x < 0
  · rw [if_pos h1, if_neg (by rw [mayN_iff]; omega)]
  · rw [if_neg h1]
    by_cases h2 : x > 999999
    · rw [if_pos h2, if_neg (by rw [mayN_iff]; omega)]
    · rw [if_neg h2, if_pos (mayN_iff.2 (by omega))]
theorem within_loop : ∀ (r : List Int) (k : Nat) (l : List Int) (i : Int), Lt l i r → l.length ≤ 100 → r.length < k → version_within.l0 k l l.length i = some (r.all mayN)
  | [], k, l, i, h, hl, hk => by
    obtain ⟨k, rfl, hk'⟩ := pred hk
    simp only [version_within.l0]
    rw [if_neg h.not_lt]; rfl
  | x :: r, k, l, i, h, hl, hk => by
    obtain ⟨k, rfl, hk'⟩ := pred hk
    rw [within_one k l i x r h hl, List.all_cons]
    cases mayN x
    · simp
    · rw [if_pos rfl, within_loop r k l (i + 1) h.next hl (by simp at hk'; omega)]; rfl
theorem within_eq (k : Nat) (a b c : Int) (hk : 5 < k) : version_within.f k [a, b, c] = some (mayN a && mayN b && mayN c) := by
  unfold version_within.f
  rw [within_loop [a, b, c] k [a, b, c] 0 (Lt.zero _) (by simp) (by simp; omega)]
  simp [Bool.and_assoc]
theorem right_go (k N : Nat) (hN : N ≤ 281474976710656) (hk : N < k) : ∀ (l : List ByteArray) (n : Nat), (∀ x ∈ l, x.size ≤ N) → n ≤ 5 → version_right.go k l n = some ((l.all fun x => partB (dl x)) && decide (n + l.length ≤ 5))
  | [], n, _, hn => by
    simp only [version_right.go, List.all_nil, Bool.true_and, List.length_nil, Nat.add_zero]
    rw [decide_eq_true hn]
  | x :: l, n, hx, hn => by
    have h1 := hx x List.mem_cons_self
    simp only [version_right.go]
    rw [part_eq k x (by omega) (by omega)]
    simp only [Option.bind_some, List.all_cons, List.length_cons]
    cases partB (dl x)
    · simp
    · rw [if_neg (by decide)]
      by_cases h5 : 5 < n + 1
      · rw [if_pos h5, decide_eq_false (by omega), Bool.and_false]
      · rw [if_neg h5, right_go k N hN hk l (n + 1) (fun y hy => hx y (List.mem_cons_of_mem _ hy)) (by omega), Bool.true_and]
        rw [show n + 1 + l.length = n + (l.length + 1) by omega]
theorem right_eq (k : Nat) (v : Ver) (hs : v.2.2.2.size ≤ 140737488351232) (hk : v.2.2.2.size + 10 < k) : version_right.f k v.1 v.2.1 v.2.2.1 v.2.2.2 = some (rightB v) := by
  unfold version_right.f rightB preB
  rw [within_eq k _ _ _ (by omega), toList_eq]
  change (if (dl v.2.2.2).isEmpty = true then _ else _) = _
  cases he : (dl v.2.2.2).isEmpty with
  | true => rw [if_pos rfl]; simp
  | false =>
    rw [if_neg (by decide), if_pos (by omega), cutsL_mk, right_go k v.2.2.2.size (by omega) (by omega) _ 0 (fun x hx => by
      obtain ⟨y, hy, rfl⟩ := List.mem_map.1 hx
      have := cuts_le 46 _ y hy
      rw [dl_len] at this
      rw [mk_size]; exact this) (by omega)]
    simp only [Option.bind_some, List.all_map, List.length_map, Nat.zero_add, Bool.false_or]
    change (if ((cuts 46 (dl v.2.2.2)).all partB && decide ((cuts 46 (dl v.2.2.2)).length ≤ 5)) = true then _ else _) = _
    cases ((cuts 46 (dl v.2.2.2)).all partB && decide ((cuts 46 (dl v.2.2.2)).length ≤ 5)) <;> simp
theorem itoa_eq (n : Int) (h : 0 ≤ n ∧ n ≤ 999999) : strconv_Itoa.f n = some (mk (Lib.decDigits n.toNat)) := by
  unfold strconv_Itoa.f Lib.itoa
  rw [if_pos (by omega), if_pos (by omega), if_neg (by omega)]
theorem print_eq (k : Nat) (v : Ver) (hs : v.2.2.2.size ≤ 140737488351232) (hk : v.2.2.2.size + 10 < k) : version_Print.f k v.1 v.2.1 v.2.2.1 v.2.2.2 = some (mk (printP v).1, (printP v).2) := by
  unfold version_Print.f printP
  rw [right_eq k v hs hk]
  simp only [Option.bind_some]
  by_cases h : rightB v = true
  · obtain ⟨h1, h2, h3, _⟩ := right_nums h
    have l1 := dec_len (n := v.1.toNat) (by omega)
    have l2 := dec_len (n := v.2.1.toNat) (by omega)
    have l3 := dec_len (n := v.2.2.1.toNat) (by omega)
    have hl := dl_len v.2.2.2
    rw [if_pos h, if_pos h, itoa_eq _ h1, itoa_eq _ h2, itoa_eq _ h3]
    simp only [Option.bind_some, e46, e45, mk_append, mk_size, List.length_append, List.length_cons, List.length_nil, toList_eq]
    rw [if_pos (by omega), if_pos (by omega), if_pos (by omega), if_pos (by omega)]
    change (if dl v.2.2.2 = [] then _ else _) = _
    unfold told
    by_cases he : dl v.2.2.2 = []
    · rw [if_pos he, if_pos he]; simp
    · rw [if_neg he, if_neg he, if_pos (by omega), if_pos (by rw [ByteArray.size_append, mk_size]; simp; omega)]
      conv => lhs; rw [← mk_dl v.2.2.2, mk_append, mk_append]
      simp
  · rw [if_neg h, if_neg h]; rfl
theorem pParse_eq (k : Nat) (s : ByteArray) (hs : s.size ≤ 2147483640) (hk : s.size + 20 < k) : version_Parse.f k s = some (flat5 (parseP (dl s))) := by
  unfold version_Parse.f
  rw [scut_eq s (by omega), cutB_eq]
  simp only [Option.bind_some]
  change ((strings_Split.f k (mk (cutL 45 (dl s)).1) ⟨#[46]⟩).bind fun l => if l.length = 3 then (if ((cutL 45 (dl s)).2.2 && (mk (cutL 45 (dl s)).2.1).toList.isEmpty) = true then _ else version_Parse.go k (mk (cutL 45 (dl s)).2.1) l 0 0 0 0) else _) = _
  have hlen := cutL_len 45 (dl s)
  rw [dl_len] at hlen
  rw [split_eq k _ (by rw [mk_size]; omega) (by rw [mk_size]; omega), dl_mk, mk_toList]
  simp only [Option.bind_some, List.length_map]
  unfold parseP
  revert hlen
  generalize cutL 45 (dl s) = C
  obtain ⟨front, pre, more⟩ := C
  intro hlen
  simp only at hlen ⊢
  have hle := cuts_le 46 front
  rcases parse3_cases more pre (cuts 46 front) with ⟨a, b, d, hcc⟩ | ⟨hn, hz⟩
  · rw [hcc] at hle ⊢
    have ha := hle a (by simp)
    have hb := hle b (by simp)
    have hd := hle d (by simp)
    rw [if_pos (show ([a, b, d] : List (List UInt8)).length = 3 from rfl), parse3_three]
    cases hm : (more && pre.isEmpty) with
    | true => simp [flat5, zeroV, e0]
    | false =>
      rw [if_neg (by decide)]
      simp only [List.map_cons, List.map_nil, version_Parse.go]
      rw [number_eq (mk a) (by rw [mk_size]; omega), number_eq (mk b) (by rw [mk_size]; omega), number_eq (mk d) (by rw [mk_size]; omega)]
      simp only [Option.bind_some, dl_mk]
      cases oa : okB a with
      | false => simp [flat5, zeroV, e0]
      | true =>
        cases ob : okB b with
        | false => simp [flat5, zeroV, e0]
        | true =>
          cases od : okB d with
          | false => simp [flat5, zeroV, e0]
          | true =>
            have na := okB_num oa
            have nb := okB_num ob
            have nd := okB_num od
            have hr : rightB ((numV a : Int), (numV b : Int), (numV d : Int), mk pre) = preB pre := by
              unfold rightB
              simp only [dl_mk]
              rw [mayN_iff.2 (by omega), mayN_iff.2 (by omega), mayN_iff.2 (by omega)]
              simp
            have hre := right_eq k ((numV a : Int), (numV b : Int), (numV d : Int), mk pre) (by simp only [mk_size]; omega) (by simp only [mk_size]; omega)
            rw [hr] at hre
            simp only at hre
            simp only [Bool.true_eq_false, if_false, if_true, Nat.zero_add, Nat.reduceAdd, Nat.succ_ne_zero, Nat.reduceEqDiff, na.2.2, nb.2.2, nd.2.2]
            rw [hre]
            simp only [Option.bind_some]
            cases preB pre <;> simp [flat5, zeroV, e0]
  · rw [hz, if_neg hn]
    simp [flat5, zeroV, e0]
theorem cmpInt_eq (a b : Int) : cmp_Compare_int.f a b = some (cmpI a b) := by
  unfold cmp_Compare_int.f cmp_isNaN_int.f cmpI
  simp only [bne_self_eq_false, Option.bind_some, Bool.false_eq_true, if_false]
  by_cases h : a < b
  · rw [if_pos h, if_pos h]
  · rw [if_neg h, if_neg h]
    by_cases h2 : a > b
    · rw [if_pos h2, if_pos h2]
    · rw [if_neg h2, if_neg h2]
theorem cmpStr_eq (a b : ByteArray) : cmp_Compare_string.f a b = some (cmpB (dl a) (dl b)) := by
  unfold cmp_Compare_string.f cmp_isNaN_string.f
  simp only [bne_self_eq_false, Option.bind_some, Bool.false_eq_true, if_false, toList_eq]
  exact cmpB_less (dl a) (dl b)
theorem parts_eq (k : Nat) (x y : ByteArray) (hx : x.size ≤ 2147483647) (hy : y.size ≤ 2147483647) (ox : Okp (dl x)) (oy : Okp (dl y)) (hk : 1 ≤ k) : version_parts.f k x y = some (partsC (dl x) (dl y)) := by
  unfold version_parts.f
  rw [number_eq x (by omega), number_eq y (by omega)]
  simp only [Option.bind_some]
  obtain ⟨k, rfl, hk'⟩ := pred (show 0 < k by omega)
  simp only [version_parts.j0]
  rw [cmpInt_eq, cmpStr_eq]
  unfold partsC
  cases hpx : plainB (dl x) with
  | true =>
    cases hpy : plainB (dl y) with
    | true =>
      rw [(okB_num (ox hpx)).2.2, (okB_num (oy hpy)).2.2]
      simp
    | false => simp
  | false =>
    cases hpy : plainB (dl y) with
    | true => simp
    | false => simp
theorem rows_loop (A B : List ByteArray) (hA : A.length ≤ 2147483647) (hB : B.length ≤ 2147483647) : ∀ (ra rb : List ByteArray) (k : Nat) (i : Int), Lt A i ra → Lt B i rb → (∀ x ∈ ra, Okp (dl x) ∧ x.size ≤ 2147483647) → (∀ x ∈ rb, Okp (dl x) ∧ x.size ≤ 2147483647) → ra.length + 1 < k →
    version_rows_string.l0 k A B (mn A.length B.length) i = some (rowsL partsC (ra.map dl) (rb.map dl))
  | [], rb, k, i, hra, hrb, _, _, hk => by
    obtain ⟨k, rfl, hk'⟩ := pred hk
    have la := hra.length
    have lb := hrb.length
    have hmn : ¬ i < mn (A.length : Int) B.length := by unfold mn; simp at la; split <;> omega
    simp only [version_rows_string.l0]
    rw [if_neg hmn, cmpInt_eq]
    simp only [Option.bind_some]
    cases rb with
    | nil => simp at la lb; simp [rowsL, cmpI]; omega
    | cons y t =>
      simp at la lb
      simp only [List.map_nil, List.map_cons, rowsL]
      unfold cmpI
      rw [if_pos (by omega)]
  | x :: ra, [], k, i, hra, hrb, _, _, hk => by
    obtain ⟨k, rfl, hk'⟩ := pred hk
    have la := hra.length
    have lb := hrb.length
    simp at la lb
    have hmn : ¬ i < mn (A.length : Int) B.length := by unfold mn; split <;> omega
    simp only [version_rows_string.l0]
    rw [if_neg hmn, cmpInt_eq]
    simp only [Option.bind_some, List.map_nil, List.map_cons, rowsL]
    unfold cmpI
    rw [if_neg (by omega), if_pos (by omega)]
  | x :: ra, y :: rb, k, i, hra, hrb, ha, hb, hk => by
    rw [List.length_cons] at hk
    obtain ⟨k, rfl, hk'⟩ := pred hk
    have hx := ha x List.mem_cons_self
    have hy := hb y List.mem_cons_self
    have l1 := hra.lt
    have l2 := hrb.lt
    have hmn : i < mn (A.length : Int) B.length := by unfold mn; split <;> omega
    simp only [version_rows_string.l0]
    rw [if_pos hmn, if_pos hra.ge, if_pos hra.lt, if_pos hrb.lt, hra.rd, hrb.rd, parts_eq k x y hx.2 hy.2 hx.1 hy.1 (by omega), hra.wrap (by omega)]
    simp only [Option.bind_some, List.map_cons, rowsL]
    by_cases h0 : partsC (dl x) (dl y) = 0
    · rw [if_pos h0, if_pos h0]
      exact rows_loop A B hA hB ra rb k (i + 1) hra.next hrb.next (fun z hz => ha z (List.mem_cons_of_mem _ hz)) (fun z hz => hb z (List.mem_cons_of_mem _ hz)) (by omega)
    · rw [if_neg h0, if_neg h0]
theorem or3_eq (k : Nat) (a b c : Int) (hk : 5 < k) : cmp_Or_int.f k [a, b, c] = some (if a = 0 then (if b = 0 then c else b) else a) := by
  obtain ⟨k, rfl, _⟩ := pred (show 4 < k by omega)
  obtain ⟨k, rfl, _⟩ := pred (show 3 < k by omega)
  obtain ⟨k, rfl, _⟩ := pred (show 2 < k by omega)
  obtain ⟨k, rfl, _⟩ := pred (show 1 < k by omega)
  have r0 : rd [a, b, c] 0 = a := rfl
  have r1 : rd [a, b, c] 1 = b := rfl
  have r2 : rd [a, b, c] 2 = c := rfl
  have w1 : wrap64 (0 + 1) = 1 := by unfold wrap64; omega
  have w2 : wrap64 (1 + 1) = 2 := by unfold wrap64; omega
  have w3 : wrap64 (2 + 1) = 3 := by unfold wrap64; omega
  have hl : (([a, b, c] : List Int).length : Int) = 3 := rfl
  unfold cmp_Or_int.f
  simp only [cmp_Or_int.l0, hl, r0, w1, r1, w2, r2, w3]
  by_cases ha : a = 0 <;> by_cases hb : b = 0 <;> by_cases hc : c = 0 <;> simp [ha, hb, hc]
theorem pCompare_eq (k : Nat) (v w : Ver) (hv : v.2.2.2.size ≤ 1000000) (hw : w.2.2.2.size ≤ 1000000) (hk : 10000000 < k) : version_Compare.f k v.1 v.2.1 v.2.2.1 v.2.2.2 w.1 w.2.1 w.2.2.1 w.2.2.2 = some (cmpT v w) := by
  unfold version_Compare.f cmpT
  rw [right_eq k v (by omega) (by omega), right_eq k w (by omega) (by omega)]
  simp only [Option.bind_some]
  obtain ⟨k, rfl, hk'⟩ := pred hk
  simp only [version_Compare.j0]
  cases hrv : rightB v with
  | false => simp
  | true =>
    cases hrw : rightB w with
    | false => simp
    | true =>
      obtain ⟨_, _, _, pv⟩ := right_nums hrv
      obtain ⟨_, _, _, pw⟩ := right_nums hrw
      rw [cmpInt_eq, cmpInt_eq, cmpInt_eq]
      simp only [Bool.not_true, Bool.false_eq_true, if_false, if_true, and_self, Option.bind_some]
      rw [or3_eq k _ _ _ (by omega)]
      simp only [Option.bind_some]
      obtain ⟨k, rfl, hk'⟩ := pred (show 9999990 < k by omega)
      have hend : ∀ b : Bool, version_Compare.j1 (k + 1) 0 b v.1 v.2.1 v.2.2.1 v.2.2.2 w.1 w.2.1 w.2.2.1 w.2.2.2 = some (if b = true then 0 else if dl v.2.2.2 = [] then 1 else if dl w.2.2.2 = [] then -1 else rowsL partsC (cuts 46 (dl v.2.2.2)) (cuts 46 (dl w.2.2.2))) := by
        intro b
        simp only [version_Compare.j1, toList_eq]
        change (if b = true then _ else if dl v.2.2.2 = [] then _ else if dl w.2.2.2 = [] then _ else _) = _
        cases b with
        | true => simp
        | false =>
          simp only [Bool.false_eq_true, if_false]
          have lv := dl_len v.2.2.2
          have lw := dl_len w.2.2.2
          by_cases ea : dl v.2.2.2 = []
          · rw [if_pos ea, if_pos ea]
          · rw [if_neg ea, if_neg ea]
            by_cases eb : dl w.2.2.2 = []
            · rw [if_pos eb, if_pos eb]
            · have n1 := cuts_len 46 (dl v.2.2.2)
              have n2 := cuts_len 46 (dl w.2.2.2)
              rw [if_neg eb, if_neg eb, split_eq k _ (by omega) (by omega), split_eq k _ (by omega) (by omega)]
              simp only [Option.bind_some]
              unfold version_rows_string.f
              rw [rows_loop _ _ (by rw [List.length_map]; omega) (by rw [List.length_map]; omega) _ _ k 0 (Lt.zero _) (Lt.zero _)
                  (fun x hx => by
                    obtain ⟨y, hy, rfl⟩ := List.mem_map.1 hx
                    have := cuts_le 46 _ y hy
                    exact ⟨preB_parts pv ea y hy, by rw [mk_size]; omega⟩)
                  (fun x hx => by
                    obtain ⟨y, hy, rfl⟩ := List.mem_map.1 hx
                    have := cuts_le 46 _ y hy
                    exact ⟨preB_parts pw eb y hy, by rw [mk_size]; omega⟩) (by rw [List.length_map]; omega), map_dl_mk, map_dl_mk]
              rfl
      unfold cmpV cmpP
      by_cases h1 : cmpI v.1 w.1 = 0
      · rw [if_pos h1, if_pos h1]
        by_cases h2 : cmpI v.2.1 w.2.1 = 0
        · rw [if_pos h2, if_pos h2]
          by_cases h3 : cmpI v.2.2.1 w.2.2.1 = 0
          · rw [if_pos h3, if_pos h3, h3, hend, toList_eq, toList_eq]
            congr 1
            change (if (dl v.2.2.2 == dl w.2.2.2) = true then _ else _) = _
            by_cases eab : dl v.2.2.2 = dl w.2.2.2
            · rw [if_pos (by simpa using eab), if_pos eab]
            · rw [if_neg (by simpa using eab), if_neg eab]
          · rw [if_neg h3, if_neg h3]
            simp [version_Compare.j1]
        · rw [if_neg h2, if_neg h2, if_neg h2]
          simp [version_Compare.j1]
      · rw [if_neg h1, if_neg h1, if_neg h1]
        simp [version_Compare.j1]
end Go.Proofs.YtijooffpjfhidaaDoor.Vp
end
section
namespace Go.Proofs.YtijooffpjfhidaaDoor.Vp
open Go Go.RowKit Go.Proofs.YtijooffpjfhidaaDoorW.PrintWords Go.Proofs.YtijooffpjfhidaaDoor.Txt Go.Proofs.YtijooffpjfhidaaDoor.Trim Go.Proofs.YtijooffpjfhidaaDoor.Num Go.Proofs.YtijooffpjfhidaaDoor.Seq Go.Proofs.YtijooffpjfhidaaDoor.G
theorem order_eq (k : Nat) (a b : ByteArray) (ha : a.size ≤ 1000) (hb : b.size ≤ 1000) (hk : 10000000 < k) :
    hoggetlaw04_order.f k a b = some (if (parseP (dl a)).2 = true ∧ (parseP (dl b)).2 = true then cmpT (parseP (dl a)).1 (parseP (dl b)).1 else 7) := by
  unfold hoggetlaw04_order.f
  rw [pParse_eq k a (by omega) (by omega), pParse_eq k b (by omega) (by omega)]
  simp only [Option.bind_some, flat5]
  have sz : ∀ s : ByteArray, s.size ≤ 1000 → (parseP (dl s)).1.2.2.2.size ≤ 1000000 := fun s hs => by
    cases h : parseP (dl s) with
    | mk v t =>
      cases t with
      | true =>
        have := parse_right h
        have hl := congrArg List.length this.2
        rw [dl_len] at hl
        unfold told at hl
        have hd := dl_len v.2.2.2
        by_cases he : dl v.2.2.2 = []
        · rw [he] at hd; simp at hd; show v.2.2.2.size ≤ _; omega
        · rw [if_neg he] at hl; simp at hl; show v.2.2.2.size ≤ _; omega
      | false =>
        have := parse_none h
        subst this
        show zeroV.2.2.2.size ≤ _
        decide
  have hc := pCompare_eq k (parseP (dl a)).1 (parseP (dl b)).1 (sz a ha) (sz b hb) hk
  rw [hc]
  cases (parseP (dl a)).2 <;> cases (parseP (dl b)).2 <;> simp
theorem p1 : parseP (dl ⟨#[49, 46, 50, 46, 51, 45, 97, 46, 49]⟩) = ((1, 2, 3, mk [97, 46, 49]), true) := by decide +kernel
theorem p1t : told (1, 2, 3, mk [97, 46, 49]) = [49, 46, 50, 46, 51, 45, 97, 46, 49] := (parse_right p1).2
theorem p1r : rightB (1, 2, 3, mk [97, 46, 49]) = true := (parse_right p1).1
def ordT (a b : List UInt8) : Int := if (parseP a).2 = true ∧ (parseP b).2 = true then cmpT (parseP a).1 (parseP b).1 else 7
theorem o1 : ordT (dl ⟨#[49, 46, 50, 46, 51, 45, 97, 46, 49]⟩) (dl ⟨#[49, 46, 50, 46, 51]⟩) = -1 := by decide +kernel
theorem o2 : ordT (dl ⟨#[49, 46, 49, 48, 46, 48]⟩) (dl ⟨#[49, 46, 57, 46, 48]⟩) = 1 := by decide +kernel
theorem o3 : ordT (dl ⟨#[49, 46, 48, 46, 48, 45, 50]⟩) (dl ⟨#[49, 46, 48, 46, 48, 45, 49, 48]⟩) = -1 := by decide +kernel
theorem o4 : ordT (dl ⟨#[49, 46, 48, 46, 48, 45, 50]⟩) (dl ⟨#[49, 46, 48, 46, 48, 45, 97]⟩) = -1 := by decide +kernel
theorem o5 : ordT (dl ⟨#[49, 46, 48, 46, 48, 45, 97]⟩) (dl ⟨#[49, 46, 48, 46, 48, 45, 97, 46, 48]⟩) = -1 := by decide +kernel
theorem o6 : ordT (dl ⟨#[48, 49, 46, 48, 46, 48]⟩) (dl ⟨#[49, 46, 48, 46, 48]⟩) = 7 := by decide +kernel
theorem o7 : ordT (dl ⟨#[49, 46, 48]⟩) (dl ⟨#[49, 46, 48, 46, 48]⟩) = 7 := by decide +kernel
theorem o8 : ordT (dl ⟨#[49, 46, 48, 46, 48, 45, 48, 49]⟩) (dl ⟨#[49, 46, 48, 46, 48]⟩) = 7 := by decide +kernel
theorem o9 : ordT (dl ⟨#[49, 46, 48, 46, 48, 45]⟩) (dl ⟨#[49, 46, 48, 46, 48]⟩) = 7 := by decide +kernel
theorem o10 : ordT (dl ⟨#[49, 46, 48, 46, 48]⟩) (dl ⟨#[49, 46, 48, 46, 48]⟩) = 0 := by decide +kernel
theorem versions_eq (k : Nat) (hk : 10000010 < k) : hoggetlaw04_versions.f k = some true := by
  have ho : ∀ (k : Nat) (a b : ByteArray), a.size ≤ 1000 → b.size ≤ 1000 → 10000000 < k → hoggetlaw04_order.f k a b = some (ordT (dl a) (dl b)) := fun k a b ha hb hk => order_eq k a b ha hb hk
  unfold hoggetlaw04_versions.f
  rw [pParse_eq k _ (by decide) (by have : (⟨#[49, 46, 50, 46, 51, 45, 97, 46, 49]⟩ : ByteArray).size = 9 := rfl; omega), p1]
  simp only [Option.bind_some, flat5]
  have hp := print_eq k (1, 2, 3, mk [97, 46, 49]) (by decide) (by have : (mk [97, 46, 49]).size = 3 := rfl; simp only [this]; omega)
  unfold printP at hp
  rw [p1r, if_pos rfl, p1t] at hp
  simp only at hp
  rw [hp]
  simp only [Option.bind_some, if_true, mk_toList, beq_self_eq_true, Bool.and_self]
  rw [ho k _ _ (by decide) (by decide) (by omega), o1]
  simp only [Option.bind_some, if_true]
  rw [ho k _ _ (by decide) (by decide) (by omega), o2]
  simp only [Option.bind_some, if_true]
  rw [ho k _ _ (by decide) (by decide) (by omega), o3]
  simp only [Option.bind_some, beq_self_eq_true]
  obtain ⟨k, rfl, hk'⟩ := pred hk
  simp only [hoggetlaw04_versions.j0, if_true]
  rw [ho k _ _ (by decide) (by decide) (by omega), o4]
  simp only [Option.bind_some, if_true]
  rw [ho k _ _ (by decide) (by decide) (by omega), o5]
  simp only [Option.bind_some, if_true]
  rw [ho k _ _ (by decide) (by decide) (by omega), o6]
  simp only [Option.bind_some, if_true]
  rw [ho k _ _ (by decide) (by decide) (by omega), o7]
  simp only [Option.bind_some, if_true]
  rw [ho k _ _ (by decide) (by decide) (by omega), o8]
  simp only [Option.bind_some, if_true]
  rw [ho k _ _ (by decide) (by decide) (by omega), o9]
  simp only [Option.bind_some, if_true]
  rw [ho k _ _ (by decide) (by decide) (by omega), o10]
  rfl
theorem large_loop : ∀ (r : List S23) (k : Nat) (l : List S23) (i : Int), Lt l i r → l.length ≤ 100 → r.length < k → hoggetlaw04_large.l0 k l i = some (r.any fun v => decide (v.f3.size > 300))
  | [], k, l, i, h, hl, hk => by
    obtain ⟨k, rfl, hk'⟩ := pred hk
    simp only [hoggetlaw04_large.l0]
    rw [if_neg h.not_lt]; rfl
  | v :: r, k, l, i, h, hl, hk => by
    obtain ⟨k, rfl, hk'⟩ := pred hk
    simp only [hoggetlaw04_large.l0]
    have hr : rd_T23 l i = v := h.rd _
    rw [if_pos h.lt, if_pos h.ge, hr, h.wrap (by omega)]
    unfold hoggetref04_Big.f
    simp only [Option.bind_some, List.any_cons]
    have e : decide ((v.f3.size : Int) > 300) = decide (v.f3.size > 300) := by rw [decide_eq_decide]; omega
    rw [e]
    cases decide (v.f3.size > 300)
    · simp only [Bool.false_eq_true, if_false, Bool.false_or]
      exact large_loop r k l (i + 1) h.next hl (by simp at hk'; omega)
    · simp
theorem large_eq (k : Nat) (l : List S23) (hl : l.length ≤ 100) (hk : l.length < k) : hoggetlaw04_large.f k l = some (l.any fun v => decide (v.f3.size > 300)) := by
  unfold hoggetlaw04_large.f
  exact large_loop l k l 0 (Lt.zero l) hl hk
theorem cmpT_right {v w : Ver} (hv : rightB v = true) (hw : rightB w = true) : cmpT v w = cmpV v w := by unfold cmpT; rw [if_pos ⟨hv, hw⟩]
theorem cmpI_lt {a b : Int} (h : a < b) : cmpI a b = -1 := by unfold cmpI; rw [if_pos h]
theorem cmpI_gt {a b : Int} (h : b < a) : cmpI a b = 1 := by unfold cmpI; rw [if_neg (by omega), if_pos h]
theorem cmpI_self (a : Int) : cmpI a a = 0 := cmpI_ord.refl a
end Go.Proofs.YtijooffpjfhidaaDoor.Vp
end
section
namespace Go.Proofs.YtijooffpjfhidaaDoor.Vp
open Go Go.RowKit Go.Proofs.YtijooffpjfhidaaDoorW.PrintWords Go.Proofs.YtijooffpjfhidaaDoor.Txt Go.Proofs.YtijooffpjfhidaaDoor.Trim Go.Proofs.YtijooffpjfhidaaDoor.Num Go.Proofs.YtijooffpjfhidaaDoor.Seq Go.Proofs.YtijooffpjfhidaaDoor.G
theorem VersionPlain (a0 a1 a2 : Int) (a3 : ByteArray) (b0 b1 b2 : Int) (b3 : ByteArray) : ∃ k, hoggetlaw04_VersionPlain.f k a0 a1 a2 a3 b0 b1 b2 b3 = some true := by
  obtain ⟨K, hK⟩ : ∃ K, K = 10000050 := ⟨_, rfl⟩
  refine ⟨K + 1, ?_⟩
  unfold hoggetlaw04_VersionPlain.f
  rw [large_eq _ _ (by simp) (by simp only [List.length_cons, List.length_nil]; omega)]
  simp only [Option.bind_some, List.any_cons, List.any_nil, Bool.or_false]
  by_cases h1 : a3.size > 300
  · simp [h1]
  · by_cases h2 : b3.size > 300
    · simp [h2]
    · rw [decide_eq_false h1, decide_eq_false h2]
      simp only [Bool.or_self, Bool.false_eq_true, if_false]
      have qa := print_eq (K + 1) (a0, a1, a2, a3) (by simp only; omega) (by simp only; omega)
      have qb := print_eq (K + 1) (b0, b1, b2, b3) (by simp only; omega) (by simp only; omega)
      simp only at qa qb
      rw [qa, qb]
      simp only [Option.bind_some]
      rw [versions_eq (K + 1) (by omega)]
      have pr : ∀ v : Ver, (printP v).2 = rightB v := fun v => by unfold printP; cases rightB v <;> rfl
      rw [pr, pr]
      simp only [Option.bind_some, Bool.true_eq_false, if_false]
      cases ha : rightB (a0, a1, a2, a3) with
      | false => simp
      | true =>
        cases hb : rightB (b0, b1, b2, b3) with
        | false => simp
        | true =>
          simp only [Bool.true_eq_false, if_false]
          have k1 := pCompare_eq (K + 1) (a0, a1, a2, a3) (b0, b1, b2, b3) (by simp only; omega) (by simp only; omega) (by omega)
          rw [cmpT_right ha hb] at k1
          simp only at k1
          have hx : (if a3.toList = [] then some (-1 : Int) else version_Compare.f (K + 1) a0 a1 a2 a3 a0 a1 a2 ⟨#[]⟩) = some (-1) := by
            by_cases he : dl a3 = []
            · rw [if_pos (by rw [toList_eq]; exact he)]
            · have hc : rightB (a0, a1, a2, mk []) = true := by
                unfold rightB at ha ⊢
                simp only [Bool.and_eq_true] at ha ⊢
                exact ⟨ha.1, rfl⟩
              have k2 := pCompare_eq (K + 1) (a0, a1, a2, a3) (a0, a1, a2, mk []) (by simp only; omega) (by show (mk []).size ≤ 1000000; decide) (by omega)
              rw [cmpT_right ha hc] at k2
              simp only at k2
              have : cmpV (a0, a1, a2, a3) (a0, a1, a2, mk []) = -1 := by
                unfold cmpV
                simp only [cmpI_self, if_true, dl_mk]
                unfold cmpP
                rw [if_neg he, if_neg he, if_pos rfl]
              rw [this] at k2
              rw [if_neg (by rw [toList_eq]; exact he)]
              exact k2
          rw [hx, k1]
          simp only [Option.bind_some, if_true]
          by_cases e1 : a0 ≤ b0
          · rw [if_pos e1]
            by_cases e2 : a0 = b0
            · rw [if_pos e2]
              by_cases e3 : b1 ≤ a1
              · rw [if_pos e3]
              · rw [if_neg e3]
                have : cmpV (a0, a1, a2, a3) (b0, b1, b2, b3) = -1 := by
                  unfold cmpV
                  simp only
                  rw [e2, cmpI_self, if_pos rfl, cmpI_lt (by omega)]; rfl
                rw [this]; rfl
            · rw [if_neg e2]
          · have : cmpV (a0, a1, a2, a3) (b0, b1, b2, b3) = 1 := by
              unfold cmpV
              simp only
              rw [cmpI_gt (by omega)]; rfl
            rw [if_neg e1, this, if_pos rfl]
end Go.Proofs.YtijooffpjfhidaaDoor.Vp
end
section
namespace Go.Proofs.YtijooffpjfhidaaDoor
open Go Go.RowKit
theorem pow_tab : (Rows.laid_internal_strconv_uint64pow10 : DataW Unit) = Lib.tabData .u64 Lib.pow10Tab := by kernel_rfl
theorem LD_of {l : List (String × DataW Unit)} {W : World} (h : laidMetH Tryd.prog l W) (hn : (l.all fun x => x.2.handleName?.isNone) = true)
    (h1 : ("internal/strconv.uint64pow10", Rows.laid_internal_strconv_uint64pow10) ∈ l) (h2 : ("strconv.ErrSyntax", Rows.laid_strconv_ErrSyntax) ∈ l) (h3 : ("strconv.ErrRange", Rows.laid_strconv_ErrRange) ∈ l) : LD W := by
  rw [MakeChecks.laidMetH_plain _ _ _ hn] at h
  refine ⟨?_, ?_, ?_⟩
  · obtain ⟨g, t, cs, fuel, p, hg, ht, hv, hd⟩ := Lib.laidMet.reads h h1
    obtain rfl := Option.some.inj ((show Tryd.prog.globalNamed "internal/strconv.uint64pow10" = some 3 by kernel_rfl).symm.trans hg)
    obtain rfl := Option.some.inj ((show (Tryd.prog.globals[3]?).map (·.type) = some 106 by kernel_rfl).symm.trans ht)
    rw [pow_tab] at hd
    unfold Lib.TabIs
    rw [hv, ← Lib.cells_of_tab Tryd.underlying106 Tryd.underlying90 (by kernel_rfl) (by kernel_rfl) hd]
  · obtain ⟨g, t, cs, fuel, p, hg, ht, hv, hd⟩ := Lib.laidMet.reads h h2
    obtain rfl := Option.some.inj ((show Tryd.prog.globalNamed "strconv.ErrSyntax" = some 1 by kernel_rfl).symm.trans hg)
    obtain rfl := Option.some.inj ((show (Tryd.prog.globals[1]?).map (·.type) = some 54 by kernel_rfl).symm.trans ht)
    obtain ⟨_, u, v, hcs, _⟩ := iface_of_trod Tryd.underlying54 hd
    exact ⟨u, v, by rw [hv]; exact congrArg some (Array.toList_inj.1 hcs)⟩
  · obtain ⟨g, t, cs, fuel, p, hg, ht, hv, hd⟩ := Lib.laidMet.reads h h3
    obtain rfl := Option.some.inj ((show Tryd.prog.globalNamed "strconv.ErrRange" = some 2 by kernel_rfl).symm.trans hg)
    obtain rfl := Option.some.inj ((show (Tryd.prog.globals[2]?).map (·.type) = some 54 by kernel_rfl).symm.trans ht)
    obtain ⟨_, u, v, hcs, _⟩ := iface_of_trod Tryd.underlying54 hd
    exact ⟨u, v, by rw [hv]; exact congrArg some (Array.toList_inj.1 hcs)⟩
end Go.Proofs.YtijooffpjfhidaaDoor
end
section
namespace Go.Proofs.YtijooffpjfhidaaDoor.Row
open Go Go.RowKit Go.ChangeShapes Go.WideShapes Go.ChangeAt
open Go.ChangeMaps (open_string shut_string)
set_option maxRecDepth 100000 in
theorem open_ver {H : Type} {enc : TypeId × Value → H} {W : World} {base b0 : Nat} {sp : Nat → Bool} {held : Bool} {r : Reach} {v : Value} {d : DataW H} {p : List MemPlace}
    (hv : Value.okWide Tryd.prog W r b0 23 v) (h : DataW.Trod enc Tryd.prog W base sp held 23 v d p) :
    ∃ (x y z : Int) (s : ByteArray), v = .agg #[.int .i64 x, .int .i64 y, .int .i64 z, .string s] ∧ p = [] ∧ d = .agg [.lit (.int .i64 x), .lit (.int .i64 y), .lit (.int .i64 z), .lit (.string s.data.toList)] := by
  obtain ⟨v0, v1, v2, v3, y0, y1, y2, y3, n, rfl, rfl, rfl, h0, h1, h2, h3⟩ := Joins.open_agg4 Tryd.underlying23 (by kernel_rfl) (by kernel_rfl) hv h
  obtain ⟨x, e0, rfl, _⟩ := DataW.trod_int Tryd.underlying3 h0
  obtain ⟨y, e1, rfl, _⟩ := DataW.trod_int Tryd.underlying3 h1
  obtain ⟨z, e2, rfl, _⟩ := DataW.trod_int Tryd.underlying3 h2
  obtain ⟨s, e3, rfl, _⟩ := DataW.trod_string Tryd.underlying9 h3
  simp only [List.cons.injEq, and_true] at e0 e1 e2 e3
  subst e0 e1 e2 e3
  exact ⟨x, y, z, s, rfl, rfl, rfl⟩
end Go.Proofs.YtijooffpjfhidaaDoor.Row
end
