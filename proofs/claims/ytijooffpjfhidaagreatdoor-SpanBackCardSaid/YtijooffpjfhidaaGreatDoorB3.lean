/- Texts that the claims' laws stand on, put together by a program of this session (wip/prune.py): printed functions, their walks, and plain lemmas. -/
import Derived.Test.YtijooffpjfhidaaGreatDoorB2
section
namespace Go.Proofs.YtijooffpjfhidaaGreatDoor.G
open Go.RowKit Go.Proofs.YtijooffpjfhidaaGreatDoorW.PrintWords Go.Proofs.YtijooffpjfhidaaGreatDoorW.PrintLast Go.Proofs.YtijooffpjfhidaaGreatDoorW.PrintMore
attribute [local go_sem] Go.Proofs.YtijooffpjfhidaaGreatDoor.Aid.gtr_string max2_int min2_int max_two min_two max_three min_three max_four min_four
set_option linter.unusedVariables false
set_option linter.unusedSimpArgs false
mutual
def version_Compare.j0 : Nat → Bool → Int → Int → Int → ByteArray → Int → Int → Int → ByteArray → Option (Int)
  | 0, _, _, _, _, _, _, _, _, _ => none
  | k + 1, x13, x171000, x171001, x171002, x171003, x172000, x172001, x172002, x172003 => if x13 = true then (some 0) else ((cmp_Compare_int.f x171000 x172000).bind fun t174 => ((cmp_Compare_int.f x171001 x172001).bind fun t175 => ((cmp_Compare_int.f x171002 x172002).bind fun t176 => ((cmp_Or_int.f k (([t174, t175, t176] : List Int))).bind fun t180 => (if t180 = 0 then (version_Compare.j1 k t180 (x171003.toList == x172003.toList) x171000 x171001 x171002 x171003 x172000 x172001 x172002 x172003) else (version_Compare.j1 k t180 true x171000 x171001 x171002 x171003 x172000 x172001 x172002 x172003))))))
def version_Compare.j1 : Nat → Int → Bool → Int → Int → Int → ByteArray → Int → Int → Int → ByteArray → Option (Int)
  | 0, _, _, _, _, _, _, _, _, _, _ => none
  | k + 1, x5, x31, x171000, x171001, x171002, x171003, x172000, x172001, x172002, x172003 => if x31 = true then (some x5) else (if x171003.toList = ([] : List UInt8) then (some 1) else (if x172003.toList = ([] : List UInt8) then (some (-1)) else ((strings_Split.f k x171003 (⟨#[46]⟩ : ByteArray)).bind fun t181 => ((strings_Split.f k x172003 (⟨#[46]⟩ : ByteArray)).bind fun t184 => ((version_rows_string.f k t181 t184 ()).bind fun t187 => (some t187))))))
end
def version_Compare.f (k : Nat) (a0_0 : Int) (a0_1 : Int) (a0_2 : Int) (a0_3 : ByteArray) (a1_0 : Int) (a1_1 : Int) (a1_2 : Int) (a1_3 : ByteArray) : Option (Int) := (version_right.f k a0_0 a0_1 a0_2 a0_3).bind fun t172 => (if t172 = true then ((version_right.f k a1_0 a1_1 a1_2 a1_3).bind fun t173 => (version_Compare.j0 k (!t173) a0_0 a0_1 a0_2 a0_3 a1_0 a1_1 a1_2 a1_3)) else (version_Compare.j0 k true a0_0 a0_1 a0_2 a0_3 a1_0 a1_1 a1_2 a1_3))
def version_Compare.T3 : Bool × List (List Nat × List Nat) := (true, [([], []), ([0], [0]), ([], []), ([2], [2]), ([1, 3], [1, 3]), ([], []), ([5], [5]), ([], []), ([7], [7]), ([6, 8, 4], [6, 8]), ([], []), ([10], [10]), ([], []), ([12], [12]), ([11, 13, 9], [11, 13]), ([4, 9, 14], [4, 9, 14]), ([15, 14], [15]), ([16, 16, 0, 1, 2, 3, 4, 5, 6, 7, 8, 9, 10, 11, 12, 13, 14, 15, 16], [16])])
def version_Compare.B3 : List Nat := [0, 1, 0, 4, 15, 0, 32, 0, 128, 511, 0, 1024, 0, 4096, 16383, 32767, 65535, 131071]
theorem version_Compare.tab3 : rtab .any (opsOf Tryz.f60 3) = version_Compare.T3 := by kernel_rfl
theorem version_Compare.bits3 : waitsOk version_Compare.T3.2 version_Compare.B3 = true := by kernel_rfl
def version_Compare.T10 : Bool × List (List Nat × List Nat) := (true, [([], []), ([0], [0]), ([1], [1]), ([], []), ([3], [3]), ([4, 2], [4]), ([2, 5, 5], [2, 5]), ([6, 6, 0, 1, 2, 3, 4, 5, 6], [6])])
def version_Compare.B10 : List Nat := [0, 1, 3, 0, 8, 31, 63, 127]
theorem version_Compare.tab10 : rtab .any (opsOf Tryz.f60 10) = version_Compare.T10 := by kernel_rfl
theorem version_Compare.bits10 : waitsOk version_Compare.T10.2 version_Compare.B10 = true := by kernel_rfl
set_option maxHeartbeats 8000000 in
set_option maxRecDepth 100000 in
theorem version_Compare.calls (k : Nat) (a0_0 : Int) (a0_1 : Int) (a0_2 : Int) (a0_3 : ByteArray) (a1_0 : Int) (a1_1 : Int) (a1_2 : Int) (a1_3 : ByteArray) (r : Int) (w : World) (h : version_Compare.f k a0_0 a0_1 a0_2 a0_3 a1_0 a1_1 a1_2 a1_3 = some r) (hLD : LD w) :
    Calls Tryz.prog 60 #[.agg #[.int .i64 a0_0, .int .i64 a0_1, .int .i64 a0_2, .string a0_3], .agg #[.int .i64 a1_0, .int .i64 a1_1, .int .i64 a1_2, .string a1_3]] w fun e w' => e = .returned (.int .i64 r) ∧ Below w.heap.size w w' := by
  have hu35 := Tryz.underlying35
  have HB := Aside0.mk (Below.refl w.heap.size w)
  have H : ((version_right.f k a0_0 a0_1 a0_2 a0_3).bind fun t172 => (if t172 = true then ((version_right.f k a1_0 a1_1 a1_2 a1_3).bind fun t173 => (version_Compare.j0 k (!t173) a0_0 a0_1 a0_2 a0_3 a1_0 a1_1 a1_2 a1_3)) else (version_Compare.j0 k true a0_0 a0_1 a0_2 a0_3 a1_0 a1_1 a1_2 a1_3))) = some r := h
  clear h
  have HC3 := Aside0.mk H
  clear H
  go_enter Tryz.func60, Tryz.ntmps60
  go_upto_region 1 with (first | ((with_reducible refine gate_dst (N := 2) rfl ?_); refine box_event ?hg (N := 2) ?hd (cs := #[.int .i64 a0_0, .int .i64 a0_1, .int .i64 a0_2, .string a0_3]) (t := 35) ?hr ?_; (case hd => rfl); (case hg => rfl); (case hr => first | (go_simp; done) | (go_simp; rfl)); intro gb170 hg w4 hbox hb; have n0_ := Aside0.mk (below_step (by repeat (first | (with_reducible first | exact HB.out | apply below_alloc | apply pw_below_drewN | apply below_drew1) | exact HB.out)) hb); have n1_ := Aside0.mk (hbox); have n2_ := Aside0.mk ((by rw [hg]; exact (below_size (by repeat (first | (with_reducible first | exact HB.out | apply below_alloc | apply pw_below_drewN | apply below_drew1) | exact HB.out))) : w.heap.size ≤ gb170)); have n3_ := Aside0.mk ((by rw [hg]; exact (below_size (by repeat (first | (with_reducible first | exact HB.out | apply below_alloc | apply pw_below_drewN | apply below_drew1) | exact HB.out))) : w.heap.size ≤ gb170)); clear HB; have HB := n0_; have BK170 := n1_; have GW170 := n2_; have GE170 := n3_; clear n0_ n1_ n2_ n3_; clear hb hbox hg) | ((with_reducible refine gate_dst (N := 3) rfl ?_); refine box_event ?hg (N := 3) ?hd (cs := #[.int .i64 a1_0, .int .i64 a1_1, .int .i64 a1_2, .string a1_3]) (t := 35) ?hr ?_; (case hd => rfl); (case hg => rfl); (case hr => first | (go_simp; done) | (go_simp; rfl)); intro gb171 hg w5 hbox hb; have n0_ := Aside0.mk (blk_below (g := gb170) (o := .cells #[.int .i64 a0_0, .int .i64 a0_1, .int .i64 a0_2, .string a0_3] 35 (0, 0)) (by (with_reducible repeat (first | refine blk_drewN ?_ _ | refine blk_drew ?_ | refine blk_alloc ?_ _)); exact BK170.out) hb); have n1_ := Aside0.mk (below_step (by repeat (first | (with_reducible first | exact HB.out | apply below_alloc | apply pw_below_drewN | apply below_drew1 | refine below_set ?_ GE170.out) | exact HB.out)) hb); have n2_ := Aside0.mk (hbox); have n3_ := Aside0.mk ((by rw [hg]; exact (below_size (by repeat (first | (with_reducible first | exact HB.out | apply below_alloc | apply pw_below_drewN | apply below_drew1 | refine below_set ?_ GE170.out) | exact HB.out))) : w.heap.size ≤ gb171)); have n4_ := Aside0.mk ((by rw [hg]; exact (below_size (by repeat (first | (with_reducible first | exact HB.out | apply below_alloc | apply pw_below_drewN | apply below_drew1 | refine below_set ?_ GE170.out) | exact HB.out))) : w.heap.size ≤ gb171)); have n5_ := Aside0.mk ((by rw [hg]; exact Nat.ne_of_lt (blk_lt (g := gb170) (o := .cells #[.int .i64 a0_0, .int .i64 a0_1, .int .i64 a0_2, .string a0_3] 35 (0, 0)) (by (with_reducible repeat (first | refine blk_drewN ?_ _ | refine blk_drew ?_ | refine blk_alloc ?_ _)); exact BK170.out)) : gb170 ≠ gb171)); have n6_ := Aside0.mk ((by rw [hg]; exact Nat.ne_of_gt (blk_lt (g := gb170) (o := .cells #[.int .i64 a0_0, .int .i64 a0_1, .int .i64 a0_2, .string a0_3] 35 (0, 0)) (by (with_reducible repeat (first | refine blk_drewN ?_ _ | refine blk_drew ?_ | refine blk_alloc ?_ _)); exact BK170.out)) : gb171 ≠ gb170)); clear BK170; clear HB; have BK170 := n0_; have HB := n1_; have BK171 := n2_; have GW171 := n3_; have GE171 := n4_; have NB170_171 := n5_; have NB171_170 := n6_; clear n0_ n1_ n2_ n3_ n4_ n5_ n6_; clear hb hbox hg))
  (try simp only [Act.put, List.setIfInBounds_toArray, List.set_cons_zero, List.set_cons_succ])
  go_cut [13] (fun v13 wc => ∃ (kq : Nat) (x13_2 : Bool), v13 = .bool x13_2 ∧ Aside0 (version_Compare.j0 kq x13_2 a0_0 a0_1 a0_2 a0_3 a1_0 a1_1 a1_2 a1_3 = some r) ∧ Aside0 (kq ≤ k) ∧ Aside0 (wc.heap[gb170]? = some (.cells #[.int .i64 a0_0, .int .i64 a0_1, .int .i64 a0_2, .string a0_3] 35 (0, 0))) ∧ Aside0 (wc.heap[gb171]? = some (.cells #[.int .i64 a1_0, .int .i64 a1_1, .int .i64 a1_2, .string a1_3] 35 (0, 0))) ∧ Aside0 (Below w.heap.size w wc))
  case first =>
    have H := HC3.out
    clear HC3
    replace H := Option.bind_eq_some_iff.mp H
    obtain ⟨t172, A60, H⟩ := H
    replace H : (if t172 = true then ((version_right.f k a1_0 a1_1 a1_2 a1_3).bind fun t173 => (version_Compare.j0 k (!t173) a0_0 a0_1 a0_2 a0_3 a1_0 a1_1 a1_2 a1_3)) else (version_Compare.j0 k true a0_0 a0_1 a0_2 a0_3 a1_0 a1_1 a1_2 a1_3)) = some r := H
    have A6 := Aside0.mk A60
    clear A60
    by_cases c7 : t172 = true
    · subst c7
      have H1 : ((version_right.f k a1_0 a1_1 a1_2 a1_3).bind fun t173 => (version_Compare.j0 k (!t173) a0_0 a0_1 a0_2 a0_3 a1_0 a1_1 a1_2 a1_3)) = some r := by rw [if_pos rfl] at H; exact H
      clear H
      have H := H1
      clear H1
      replace H := Option.bind_eq_some_iff.mp H
      obtain ⟨t173, A80, H⟩ := H
      replace H : (version_Compare.j0 k (!t173) a0_0 a0_1 a0_2 a0_3 a1_0 a1_1 a1_2 a1_3) = some r := H
      have A8 := Aside0.mk A80
      clear A80
      have H' := Aside0.mk H
      clear H
      have hnb9 := NB170_171.out
      have hnc9 := NB171_170.out
      have hcz10_0 : w5.cell? ⟨gb170, 0, none⟩ = some (.int .i64 a0_0) := (blk_cell BK170.out 0).trans rfl
      have hcz10_1 : w5.cell? ⟨gb170, 1, none⟩ = some (.int .i64 a0_1) := (blk_cell BK170.out 1).trans rfl
      have hcz10_2 : w5.cell? ⟨gb170, 2, none⟩ = some (.int .i64 a0_2) := (blk_cell BK170.out 2).trans rfl
      have hcz10_3 : w5.cell? ⟨gb170, 3, none⟩ = some (.string a0_3) := (blk_cell BK170.out 3).trans rfl
      have hfz10_0 := blk_frozen BK170.out 0
      have hfz10_1 := blk_frozen BK170.out 1
      have hfz10_2 := blk_frozen BK170.out 2
      have hfz10_3 := blk_frozen BK170.out 3
      go_wp2_with (first | ((with_reducible refine gate_callee (f := 39) rfl ?_); refine goesL_ (some 7) rfl rfl Tryz.func39 (by kernel_rfl) rfl #[.agg #[.int .i64 a0_0, .int .i64 a0_1, .int .i64 a0_2, .string a0_3]] rfl (by (try simp only [List.map_toArray, List.map_cons, List.map_nil]); first | done | rfl | (simp only [List.length_drop, List.length_take]; rfl)) ?_; (with_reducible refine (version_right.calls k a0_0 a0_1 a0_2 a0_3 true _ A6.out (by first | exact hLD | exact LD.below hLD (by repeat (first | exact HB.out | exact Below.refl _ _ | exact Aside0.out (by assumption) | apply below_alloc | apply pw_below_drewN | apply below_drew1 | refine below_set ?_ ?_)))).mono ?_); rintro e w11 ⟨rfl, hb⟩; refine ⟨_, rfl, ?_⟩; have n0_ := Aside0.mk (blk_below (g := gb170) (o := .cells #[.int .i64 a0_0, .int .i64 a0_1, .int .i64 a0_2, .string a0_3] 35 (0, 0)) (by (with_reducible repeat (first | refine blk_drewN ?_ _ | refine blk_drew ?_ | refine blk_alloc ?_ _)); exact BK170.out) hb); have n1_ := Aside0.mk (blk_below (g := gb171) (o := .cells #[.int .i64 a1_0, .int .i64 a1_1, .int .i64 a1_2, .string a1_3] 35 (0, 0)) (by (with_reducible repeat (first | refine blk_drewN ?_ _ | refine blk_drew ?_ | refine blk_alloc ?_ _)); exact BK171.out) hb); have n2_ := Aside0.mk (below_step (by repeat (first | (with_reducible first | exact HB.out | apply below_alloc | apply pw_below_drewN | apply below_drew1 | refine below_set ?_ GE170.out | refine below_set ?_ GE171.out) | exact HB.out)) hb); clear BK170; clear BK171; clear HB; have BK170 := n0_; have BK171 := n1_; have HB := n2_; clear n0_ n1_ n2_; (try clear hb); (try clear hb2); (try clear hk); (try clear hi); have hcz12_0 : w11.cell? ⟨gb171, 0, none⟩ = some (.int .i64 a1_0) := (blk_cell BK171.out 0).trans rfl; have hcz12_1 : w11.cell? ⟨gb171, 1, none⟩ = some (.int .i64 a1_1) := (blk_cell BK171.out 1).trans rfl; have hcz12_2 : w11.cell? ⟨gb171, 2, none⟩ = some (.int .i64 a1_2) := (blk_cell BK171.out 2).trans rfl; have hcz12_3 : w11.cell? ⟨gb171, 3, none⟩ = some (.string a1_3) := (blk_cell BK171.out 3).trans rfl; have hfz12_0 := blk_frozen BK171.out 0; have hfz12_1 := blk_frozen BK171.out 1; have hfz12_2 := blk_frozen BK171.out 2; have hfz12_3 := blk_frozen BK171.out 3) | (go_at_call 39; (with_reducible refine (version_right.calls k a1_0 a1_1 a1_2 a1_3 t173 _ A8.out (by first | exact hLD | exact LD.below hLD (by repeat (first | exact HB.out | exact Below.refl _ _ | exact Aside0.out (by assumption) | apply below_alloc | apply pw_below_drewN | apply below_drew1 | refine below_set ?_ ?_)))).mono ?_); rintro e w13 ⟨rfl, hb⟩; have n0_ := Aside0.mk (blk_below (g := gb170) (o := .cells #[.int .i64 a0_0, .int .i64 a0_1, .int .i64 a0_2, .string a0_3] 35 (0, 0)) (by (with_reducible repeat (first | refine blk_drewN ?_ _ | refine blk_drew ?_ | refine blk_alloc ?_ _)); exact BK170.out) hb); have n1_ := Aside0.mk (blk_below (g := gb171) (o := .cells #[.int .i64 a1_0, .int .i64 a1_1, .int .i64 a1_2, .string a1_3] 35 (0, 0)) (by (with_reducible repeat (first | refine blk_drewN ?_ _ | refine blk_drew ?_ | refine blk_alloc ?_ _)); exact BK171.out) hb); have n2_ := Aside0.mk (below_step (by repeat (first | (with_reducible first | exact HB.out | apply below_alloc | apply pw_below_drewN | apply below_drew1 | refine below_set ?_ GE170.out | refine below_set ?_ GE171.out) | exact HB.out)) hb); clear BK170; clear BK171; clear HB; have BK170 := n0_; have BK171 := n1_; have HB := n2_; clear n0_ n1_ n2_; (try clear hb); (try clear hb2); (try clear hk); (try clear hi)))
      go_meet
      case rel => exact ⟨_, (!t173), (by first | rfl | (simp; done) | (simp [*]; done) | exact Go.Proofs.YtijooffpjfhidaaGreatDoor.Aid.ret_ne _ | exact Go.Proofs.YtijooffpjfhidaaGreatDoor.Aid.ret_eq _), H', ⟨by first | omega | exact Nat.le_refl _⟩, ⟨by (with_reducible repeat (first | refine blk_drewN ?_ _ | refine blk_drew ?_ | refine blk_alloc ?_ _)); exact BK170.out⟩, ⟨by (with_reducible repeat (first | refine blk_drewN ?_ _ | refine blk_drew ?_ | refine blk_alloc ?_ _)); exact BK171.out⟩, ⟨by repeat (first | (with_reducible first | exact HB.out | apply below_alloc | apply pw_below_drewN | apply below_drew1 | refine below_set ?_ GE170.out | refine below_set ?_ GE171.out) | exact HB.out)⟩⟩
    · replace c7 := Bool.eq_false_iff.mpr c7
      subst c7
      have H1 : (version_Compare.j0 k true a0_0 a0_1 a0_2 a0_3 a1_0 a1_1 a1_2 a1_3) = some r := by rw [if_neg (show ¬ (false = true) by decide)] at H; exact H
      clear H
      have H := H1
      clear H1
      have H' := Aside0.mk H
      clear H
      have hnb14 := NB170_171.out
      have hnc14 := NB171_170.out
      have hcz15_0 : w5.cell? ⟨gb170, 0, none⟩ = some (.int .i64 a0_0) := (blk_cell BK170.out 0).trans rfl
      have hcz15_1 : w5.cell? ⟨gb170, 1, none⟩ = some (.int .i64 a0_1) := (blk_cell BK170.out 1).trans rfl
      have hcz15_2 : w5.cell? ⟨gb170, 2, none⟩ = some (.int .i64 a0_2) := (blk_cell BK170.out 2).trans rfl
      have hcz15_3 : w5.cell? ⟨gb170, 3, none⟩ = some (.string a0_3) := (blk_cell BK170.out 3).trans rfl
      have hfz15_0 := blk_frozen BK170.out 0
      have hfz15_1 := blk_frozen BK170.out 1
      have hfz15_2 := blk_frozen BK170.out 2
      have hfz15_3 := blk_frozen BK170.out 3
      go_wp2_with (first | ((with_reducible refine gate_callee (f := 39) rfl ?_); refine goesL_ (some 7) rfl rfl Tryz.func39 (by kernel_rfl) rfl #[.agg #[.int .i64 a0_0, .int .i64 a0_1, .int .i64 a0_2, .string a0_3]] rfl (by (try simp only [List.map_toArray, List.map_cons, List.map_nil]); first | done | rfl | (simp only [List.length_drop, List.length_take]; rfl)) ?_; (with_reducible refine (version_right.calls k a0_0 a0_1 a0_2 a0_3 false _ A6.out (by first | exact hLD | exact LD.below hLD (by repeat (first | exact HB.out | exact Below.refl _ _ | exact Aside0.out (by assumption) | apply below_alloc | apply pw_below_drewN | apply below_drew1 | refine below_set ?_ ?_)))).mono ?_); rintro e w16 ⟨rfl, hb⟩; refine ⟨_, rfl, ?_⟩; have n0_ := Aside0.mk (blk_below (g := gb170) (o := .cells #[.int .i64 a0_0, .int .i64 a0_1, .int .i64 a0_2, .string a0_3] 35 (0, 0)) (by (with_reducible repeat (first | refine blk_drewN ?_ _ | refine blk_drew ?_ | refine blk_alloc ?_ _)); exact BK170.out) hb); have n1_ := Aside0.mk (blk_below (g := gb171) (o := .cells #[.int .i64 a1_0, .int .i64 a1_1, .int .i64 a1_2, .string a1_3] 35 (0, 0)) (by (with_reducible repeat (first | refine blk_drewN ?_ _ | refine blk_drew ?_ | refine blk_alloc ?_ _)); exact BK171.out) hb); have n2_ := Aside0.mk (below_step (by repeat (first | (with_reducible first | exact HB.out | apply below_alloc | apply pw_below_drewN | apply below_drew1 | refine below_set ?_ GE170.out | refine below_set ?_ GE171.out) | exact HB.out)) hb); clear BK170; clear BK171; clear HB; have BK170 := n0_; have BK171 := n1_; have HB := n2_; clear n0_ n1_ n2_; (try clear hb); (try clear hb2); (try clear hk); (try clear hi)))
      go_meet
      case rel => exact ⟨_, (true), (by first | rfl | (simp; done) | (simp [*]; done) | exact Go.Proofs.YtijooffpjfhidaaGreatDoor.Aid.ret_ne _ | exact Go.Proofs.YtijooffpjfhidaaGreatDoor.Aid.ret_eq _), H', ⟨by first | omega | exact Nat.le_refl _⟩, ⟨by (with_reducible repeat (first | refine blk_drewN ?_ _ | refine blk_drew ?_ | refine blk_alloc ?_ _)); exact BK170.out⟩, ⟨by (with_reducible repeat (first | refine blk_drewN ?_ _ | refine blk_drew ?_ | refine blk_alloc ?_ _)); exact BK171.out⟩, ⟨by repeat (first | (with_reducible first | exact HB.out | apply below_alloc | apply pw_below_drewN | apply below_drew1 | refine below_set ?_ GE170.out | refine below_set ?_ GE171.out) | exact HB.out)⟩⟩
  case rest =>
    clear HC3
    try clear c1
    try clear p2
    try clear c3
    try clear c6
    try clear c7
    try clear c9
    try clear c14
    try clear hcz10_0
    try clear hcz10_1
    try clear hcz10_2
    try clear hcz10_3
    try clear hcz12_0
    try clear hcz12_1
    try clear hcz12_2
    try clear hcz12_3
    try clear hcz15_0
    try clear hcz15_1
    try clear hcz15_2
    try clear hcz15_3
    try clear hfz10_0
    try clear hfz10_1
    try clear hfz10_2
    try clear hfz10_3
    try clear hfz12_0
    try clear hfz12_1
    try clear hfz12_2
    try clear hfz12_3
    try clear hfz15_0
    try clear hfz15_1
    try clear hfz15_2
    try clear hfz15_3
    obtain ⟨kq, x13_2, rfl, HA, HJ2, BK170, BK171, HB⟩ := hcut
    cases kq with
    | zero => exact absurd HA.out (by simp [version_Compare.j0])
    | succ kj2 =>
      have H := HA.out
      clear HA
      simp only [version_Compare.j0] at H
      by_cases c17 : x13_2 = true
      · subst c17
        have H1 : (some 0) = some r := by rw [if_pos rfl] at H; exact H
        clear H
        have H := H1
        clear H1
        obtain rfl := Option.some.inj H
        go_wp2
        go_ret
        exact ⟨by first | rfl | (simp [errW_none, errW_some] <;> rfl) | (simp [*, errW_none, errW_some] <;> rfl), by repeat (first | (with_reducible first | exact HB.out | apply below_alloc | apply pw_below_drewN | apply below_drew1 | refine below_set ?_ GE170.out | refine below_set ?_ GE171.out) | exact HB.out)⟩
      · replace c17 := Bool.eq_false_iff.mpr c17
        subst c17
        have H1 : ((cmp_Compare_int.f a0_0 a1_0).bind fun t174 => ((cmp_Compare_int.f a0_1 a1_1).bind fun t175 => ((cmp_Compare_int.f a0_2 a1_2).bind fun t176 => ((cmp_Or_int.f kj2 (([t174, t175, t176] : List Int))).bind fun t180 => (if t180 = 0 then (version_Compare.j1 kj2 t180 (a0_3.toList == a1_3.toList) a0_0 a0_1 a0_2 a0_3 a1_0 a1_1 a1_2 a1_3) else (version_Compare.j1 kj2 t180 true a0_0 a0_1 a0_2 a0_3 a1_0 a1_1 a1_2 a1_3)))))) = some r := by rw [if_neg (show ¬ (false = true) by decide)] at H; exact H
        clear H
        have H := H1
        clear H1
        replace H := Option.bind_eq_some_iff.mp H
        obtain ⟨t174, A180, H⟩ := H
        replace H : ((cmp_Compare_int.f a0_1 a1_1).bind fun t175 => ((cmp_Compare_int.f a0_2 a1_2).bind fun t176 => ((cmp_Or_int.f kj2 (([t174, t175, t176] : List Int))).bind fun t180 => (if t180 = 0 then (version_Compare.j1 kj2 t180 (a0_3.toList == a1_3.toList) a0_0 a0_1 a0_2 a0_3 a1_0 a1_1 a1_2 a1_3) else (version_Compare.j1 kj2 t180 true a0_0 a0_1 a0_2 a0_3 a1_0 a1_1 a1_2 a1_3))))) = some r := H
        have A18 := Aside0.mk A180
        clear A180
        replace H := Option.bind_eq_some_iff.mp H
        obtain ⟨t175, A190, H⟩ := H
        replace H : ((cmp_Compare_int.f a0_2 a1_2).bind fun t176 => ((cmp_Or_int.f kj2 (([t174, t175, t176] : List Int))).bind fun t180 => (if t180 = 0 then (version_Compare.j1 kj2 t180 (a0_3.toList == a1_3.toList) a0_0 a0_1 a0_2 a0_3 a1_0 a1_1 a1_2 a1_3) else (version_Compare.j1 kj2 t180 true a0_0 a0_1 a0_2 a0_3 a1_0 a1_1 a1_2 a1_3)))) = some r := H
        have A19 := Aside0.mk A190
        clear A190
        replace H := Option.bind_eq_some_iff.mp H
        obtain ⟨t176, A200, H⟩ := H
        replace H : ((cmp_Or_int.f kj2 (([t174, t175, t176] : List Int))).bind fun t180 => (if t180 = 0 then (version_Compare.j1 kj2 t180 (a0_3.toList == a1_3.toList) a0_0 a0_1 a0_2 a0_3 a1_0 a1_1 a1_2 a1_3) else (version_Compare.j1 kj2 t180 true a0_0 a0_1 a0_2 a0_3 a1_0 a1_1 a1_2 a1_3))) = some r := H
        have A20 := Aside0.mk A200
        clear A200
        obtain ⟨y177, hy177⟩ : ∃ y_ : List Int, y_ = (([t174, t175, t176] : List Int)) := ⟨_, rfl⟩
        replace H : ((cmp_Or_int.f kj2 y177).bind fun t180 => (if t180 = 0 then (version_Compare.j1 kj2 t180 (a0_3.toList == a1_3.toList) a0_0 a0_1 a0_2 a0_3 a1_0 a1_1 a1_2 a1_3) else (version_Compare.j1 kj2 t180 true a0_0 a0_1 a0_2 a0_3 a1_0 a1_1 a1_2 a1_3))) = some r := by first | (rw [hy177]; with_reducible exact H) | (have H2_ := (Option.bind_some _ _).symm.trans H; rw [hy177]; with_reducible exact H2_) | (have H2_ := (Option.bind_some _ _).symm.trans H; with_reducible exact H2_) | with_reducible exact H | (rw [hy177]; exact H) | exact H
        have Ny177 := Aside0.mk hy177
        clear hy177
        replace H := Option.bind_eq_some_iff.mp H
        obtain ⟨t180, A210, H⟩ := H
        replace H : (if t180 = 0 then (version_Compare.j1 kj2 t180 (a0_3.toList == a1_3.toList) a0_0 a0_1 a0_2 a0_3 a1_0 a1_1 a1_2 a1_3) else (version_Compare.j1 kj2 t180 true a0_0 a0_1 a0_2 a0_3 a1_0 a1_1 a1_2 a1_3)) = some r := H
        have A21 := Aside0.mk A210
        clear A210
        have HC22 := Aside0.mk H
        clear H
        try go_wp2
        have n0_ := Aside0.mk (blk_drew BK170.out)
        have n1_ := Aside0.mk (blk_drew BK171.out)
        have n2_ := Aside0.mk (below_drew1 HB.out)
        clear BK170
        clear BK171
        clear HB
        have BK170 := n0_
        have BK171 := n1_
        have HB := n2_
        clear n0_ n1_ n2_
        refine start_ (n := 18) (S := fun w' => w'.cell? ⟨gb170, 0, none⟩ = some (.int .i64 a0_0) ∧ w'.cell? ⟨gb170, 1, none⟩ = some (.int .i64 a0_1) ∧ w'.cell? ⟨gb170, 2, none⟩ = some (.int .i64 a0_2) ∧ w'.cell? ⟨gb170, 3, none⟩ = some (.string a0_3) ∧ w'.cell? ⟨gb171, 0, none⟩ = some (.int .i64 a1_0) ∧ w'.cell? ⟨gb171, 1, none⟩ = some (.int .i64 a1_1) ∧ w'.cell? ⟨gb171, 2, none⟩ = some (.int .i64 a1_2) ∧ w'.cell? ⟨gb171, 3, none⟩ = some (.string a1_3)) (ds := []) #[false, false, false, false, false, false, false, false, false, false, false, false, false, false, false, false, false, false] (by kernel_rfl) rfl rfl ⟨(blk_cell BK170.out 0).trans rfl, (blk_cell BK170.out 1).trans rfl, (blk_cell BK170.out 2).trans rfl, (blk_cell BK170.out 3).trans rfl, (blk_cell BK171.out 0).trans rfl, (blk_cell BK171.out 1).trans rfl, (blk_cell BK171.out 2).trans rfl, (blk_cell BK171.out 3).trans rfl⟩ (fun hHeld => ?_); refine with_tabW version_Compare.tab3 version_Compare.bits3 (fun HT_ HW_ => ?_)
        generalize wc.drew = w23 at BK170 BK171 HB hHeld ⊢
        refine pure_ (i := 0) (N := some 14) (v := ?_) (a' := ?_) #[true, false, false, false, false, false, false, false, false, false, false, false, false, false, false, false, false, false] rfl rfl (any_of HT_.out (by kernel_rfl)) (fun _ _ _ h => h) (Or.inl ⟨by rfl, ?_⟩) ?_ ?_
        rotate_left
        · intro w'
          go_simp
          with_reducible rfl
        rotate_left
        · simp only [Act.put, List.setIfInBounds_toArray, List.set_cons_zero, List.set_cons_succ, i64_w, i32_w]
          rfl
        refine pure_ (i := 2) (N := some 16) (v := ?_) (a' := ?_) #[true, false, true, false, false, false, false, false, false, false, false, false, false, false, false, false, false, false] rfl rfl (any_of HT_.out (by kernel_rfl)) (fun _ _ _ h => h) (Or.inl ⟨by rfl, ?_⟩) ?_ ?_
        rotate_left
        · intro w'
          go_simp
          with_reducible rfl
        rotate_left
        · simp only [Act.put, List.setIfInBounds_toArray, List.set_cons_zero, List.set_cons_succ, i64_w, i32_w]
          rfl
        refine pure_ (i := 5) (N := some 19) (v := ?_) (a' := ?_) #[true, false, true, false, false, true, false, false, false, false, false, false, false, false, false, false, false, false] rfl rfl (any_of HT_.out (by kernel_rfl)) (fun _ _ _ h => h) (Or.inl ⟨by rfl, ?_⟩) ?_ ?_
        rotate_left
        · intro w'
          go_simp
          with_reducible rfl
        rotate_left
        · simp only [Act.put, List.setIfInBounds_toArray, List.set_cons_zero, List.set_cons_succ, i64_w, i32_w]
          rfl
        refine pure_ (i := 7) (N := some 21) (v := ?_) (a' := ?_) #[true, false, true, false, false, true, false, true, false, false, false, false, false, false, false, false, false, false] rfl rfl (any_of HT_.out (by kernel_rfl)) (fun _ _ _ h => h) (Or.inl ⟨by rfl, ?_⟩) ?_ ?_
        rotate_left
        · intro w'
          go_simp
          with_reducible rfl
        rotate_left
        · simp only [Act.put, List.setIfInBounds_toArray, List.set_cons_zero, List.set_cons_succ, i64_w, i32_w]
          rfl
        refine pure_ (i := 10) (N := some 24) (v := ?_) (a' := ?_) #[true, false, true, false, false, true, false, true, false, false, true, false, false, false, false, false, false, false] rfl rfl (any_of HT_.out (by kernel_rfl)) (fun _ _ _ h => h) (Or.inl ⟨by rfl, ?_⟩) ?_ ?_
        rotate_left
        · intro w'
          go_simp
          with_reducible rfl
        rotate_left
        · simp only [Act.put, List.setIfInBounds_toArray, List.set_cons_zero, List.set_cons_succ, i64_w, i32_w]
          rfl
        refine pure_ (i := 12) (N := some 26) (v := ?_) (a' := ?_) #[true, false, true, false, false, true, false, true, false, false, true, false, true, false, false, false, false, false] rfl rfl (any_of HT_.out (by kernel_rfl)) (fun _ _ _ h => h) (Or.inl ⟨by rfl, ?_⟩) ?_ ?_
        rotate_left
        · intro w'
          go_simp
          with_reducible rfl
        rotate_left
        · simp only [Act.put, List.setIfInBounds_toArray, List.set_cons_zero, List.set_cons_succ, i64_w, i32_w]
          rfl
        refine take_ (i := 1) (N := some 15) (v := ?_) (a' := ?_) #[true, true, true, false, false, true, false, true, false, false, true, false, true, false, false, false, false, false] rfl rfl (take_ofW HT_.out HW_.out (by kernel_rfl)) (fun _ _ _ h => h) (Or.inl ⟨by rfl, ?_⟩) hHeld ?_ ?_
        rotate_left
        · rintro w' ⟨s0, s1, s2, s3, s4, s5, s6, s7⟩
          go_simp
          with_reducible rfl
        rotate_left
        · simp only [Act.put, List.setIfInBounds_toArray, List.set_cons_zero, List.set_cons_succ, i64_w, i32_w]
          rfl
        refine take_ (i := 3) (N := some 17) (v := ?_) (a' := ?_) #[true, true, true, true, false, true, false, true, false, false, true, false, true, false, false, false, false, false] rfl rfl (take_ofW HT_.out HW_.out (by kernel_rfl)) (fun _ _ _ h => h) (Or.inl ⟨by rfl, ?_⟩) hHeld ?_ ?_
        rotate_left
        · rintro w' ⟨s0, s1, s2, s3, s4, s5, s6, s7⟩
          go_simp
          with_reducible rfl
        rotate_left
        · simp only [Act.put, List.setIfInBounds_toArray, List.set_cons_zero, List.set_cons_succ, i64_w, i32_w]
          rfl
        refine take_ (i := 6) (N := some 20) (v := ?_) (a' := ?_) #[true, true, true, true, false, true, true, true, false, false, true, false, true, false, false, false, false, false] rfl rfl (take_ofW HT_.out HW_.out (by kernel_rfl)) (fun _ _ _ h => h) (Or.inl ⟨by rfl, ?_⟩) hHeld ?_ ?_
        rotate_left
        · rintro w' ⟨s0, s1, s2, s3, s4, s5, s6, s7⟩
          go_simp
          with_reducible rfl
        rotate_left
        · simp only [Act.put, List.setIfInBounds_toArray, List.set_cons_zero, List.set_cons_succ, i64_w, i32_w]
          rfl
        refine take_ (i := 8) (N := some 22) (v := ?_) (a' := ?_) #[true, true, true, true, false, true, true, true, true, false, true, false, true, false, false, false, false, false] rfl rfl (take_ofW HT_.out HW_.out (by kernel_rfl)) (fun _ _ _ h => h) (Or.inl ⟨by rfl, ?_⟩) hHeld ?_ ?_
        rotate_left
        · rintro w' ⟨s0, s1, s2, s3, s4, s5, s6, s7⟩
          go_simp
          with_reducible rfl
        rotate_left
        · simp only [Act.put, List.setIfInBounds_toArray, List.set_cons_zero, List.set_cons_succ, i64_w, i32_w]
          rfl
        refine take_ (i := 11) (N := some 25) (v := ?_) (a' := ?_) #[true, true, true, true, false, true, true, true, true, false, true, true, true, false, false, false, false, false] rfl rfl (take_ofW HT_.out HW_.out (by kernel_rfl)) (fun _ _ _ h => h) (Or.inl ⟨by rfl, ?_⟩) hHeld ?_ ?_
        rotate_left
        · rintro w' ⟨s0, s1, s2, s3, s4, s5, s6, s7⟩
          go_simp
          with_reducible rfl
        rotate_left
        · simp only [Act.put, List.setIfInBounds_toArray, List.set_cons_zero, List.set_cons_succ, i64_w, i32_w]
          rfl
        refine take_ (i := 13) (N := some 27) (v := ?_) (a' := ?_) #[true, true, true, true, false, true, true, true, true, false, true, true, true, true, false, false, false, false] rfl rfl (take_ofW HT_.out HW_.out (by kernel_rfl)) (fun _ _ _ h => h) (Or.inl ⟨by rfl, ?_⟩) hHeld ?_ ?_
        rotate_left
        · rintro w' ⟨s0, s1, s2, s3, s4, s5, s6, s7⟩
          go_simp
          with_reducible rfl
        rotate_left
        · simp only [Act.put, List.setIfInBounds_toArray, List.set_cons_zero, List.set_cons_succ, i64_w, i32_w]
          rfl
        refine one_ (i := 4) (N := some 18) #[true, true, true, true, true, true, true, true, true, false, true, true, true, true, false, false, false, false] rfl rfl (one_of HT_.out (by kernel_rfl)) (by decide) (fun K hK => ?_)
        refine goes_ Tryz.func81 (by kernel_rfl) rfl #[.int .i64 a0_0, .int .i64 a1_0] (by rfl) rfl rfl (by (try simp only [List.map_toArray, List.map_cons, List.map_nil]); first | done | rfl | (simp only [List.length_drop, List.length_take]; rfl)) ?_
        with_reducible refine (cmp_Compare_int.calls a0_0 a1_0 t174 _ A18.out).mono ?_
        rintro e w' ⟨rfl, ⟨nd, rfl⟩⟩
        refine ⟨_, rfl, ?_⟩
        refine hK.out _ _ ⟨(blk_cell BK170.out 0).trans rfl, (blk_cell BK170.out 1).trans rfl, (blk_cell BK170.out 2).trans rfl, (blk_cell BK170.out 3).trans rfl, (blk_cell BK171.out 0).trans rfl, (blk_cell BK171.out 1).trans rfl, (blk_cell BK171.out 2).trans rfl, (blk_cell BK171.out 3).trans rfl⟩ (fun hHeld => ?_)
        clear hK K
        refine norm_ (a' := ?_) ?_ ?_
        rotate_left
        · show Act.put _ (some 18) _ = _
          simp only [Act.put, List.setIfInBounds_toArray, List.set_cons_zero, List.set_cons_succ, i64_w, i32_w]
          rfl
        refine one_ (i := 9) (N := some 23) #[true, true, true, true, true, true, true, true, true, true, true, true, true, true, false, false, false, false] rfl rfl (one_of HT_.out (by kernel_rfl)) (by decide) (fun K hK => ?_)
        refine goes_ Tryz.func81 (by kernel_rfl) rfl #[.int .i64 a0_1, .int .i64 a1_1] (by rfl) rfl rfl (by (try simp only [List.map_toArray, List.map_cons, List.map_nil]); first | done | rfl | (simp only [List.length_drop, List.length_take]; rfl)) ?_
        with_reducible refine (cmp_Compare_int.calls a0_1 a1_1 t175 _ A19.out).mono ?_
        rintro e w' ⟨rfl, ⟨nd, rfl⟩⟩
        refine ⟨_, rfl, ?_⟩
        refine hK.out _ _ ⟨(blk_cell BK170.out 0).trans rfl, (blk_cell BK170.out 1).trans rfl, (blk_cell BK170.out 2).trans rfl, (blk_cell BK170.out 3).trans rfl, (blk_cell BK171.out 0).trans rfl, (blk_cell BK171.out 1).trans rfl, (blk_cell BK171.out 2).trans rfl, (blk_cell BK171.out 3).trans rfl⟩ (fun hHeld => ?_)
        clear hK K
        refine norm_ (a' := ?_) ?_ ?_
        rotate_left
        · show Act.put _ (some 23) _ = _
          simp only [Act.put, List.setIfInBounds_toArray, List.set_cons_zero, List.set_cons_succ, i64_w, i32_w]
          rfl
        refine one_ (i := 14) (N := some 28) #[true, true, true, true, true, true, true, true, true, true, true, true, true, true, true, false, false, false] rfl rfl (one_of HT_.out (by kernel_rfl)) (by decide) (fun K hK => ?_)
        refine goes_ Tryz.func81 (by kernel_rfl) rfl #[.int .i64 a0_2, .int .i64 a1_2] (by rfl) rfl rfl (by (try simp only [List.map_toArray, List.map_cons, List.map_nil]); first | done | rfl | (simp only [List.length_drop, List.length_take]; rfl)) ?_
        with_reducible refine (cmp_Compare_int.calls a0_2 a1_2 t176 _ A20.out).mono ?_
        rintro e w' ⟨rfl, ⟨nd, rfl⟩⟩
        refine ⟨_, rfl, ?_⟩
        refine hK.out _ _ ⟨(blk_cell BK170.out 0).trans rfl, (blk_cell BK170.out 1).trans rfl, (blk_cell BK170.out 2).trans rfl, (blk_cell BK170.out 3).trans rfl, (blk_cell BK171.out 0).trans rfl, (blk_cell BK171.out 1).trans rfl, (blk_cell BK171.out 2).trans rfl, (blk_cell BK171.out 3).trans rfl⟩ (fun hHeld => ?_)
        clear hK K
        refine norm_ (a' := ?_) ?_ ?_
        rotate_left
        · show Act.put _ (some 28) _ = _
          simp only [Act.put, List.setIfInBounds_toArray, List.set_cons_zero, List.set_cons_succ, i64_w, i32_w]
          rfl
        refine one_ (i := 15) (N := some 29) #[true, true, true, true, true, true, true, true, true, true, true, true, true, true, true, true, false, false] rfl rfl (one_of HT_.out (by kernel_rfl)) (by decide) (fun K hK => ?_)
        refine Kd.R_lit_step (Kd.int .i64) _ 3 ?hg (N := 29) ?hd (xs := ([t174, t175, t176] : List Int)) (inner := [.int .i64 t174, .int .i64 t175, .int .i64 t176]) (ok := fun _ => True) (okp := fun _ => True) ?hr ?hp (fun _ hk => hk) trivial (Below.refl _ _) (Nat.le_refl _) (by simp) ?_; (case hd => rfl); (case hg => rfl); (case hr => first | (go_simp; done) | (go_simp; rfl)); (case hp => exact (Reps.one (show Kd.M (Kd.int .i64) _ _ _ t174 [.int .i64 t174] from rfl) (Reps.one (show Kd.M (Kd.int .i64) _ _ _ t175 [.int .i64 t175] from rfl) (Reps.one (show Kd.M (Kd.int .i64) _ _ _ t176 [.int .i64 t176] from rfl) (Reps.none _ _)))))
        intro v178 w24 ho25 hb hg_ hnew_
        clear hg_ hnew_
        (first | rw [← Ny177.out] at ho25 | (simp only [Int.reduceToNat] at ho25; rw [← Ny177.out] at ho25))
        have n0_ := Aside0.mk (Kd.R_lower ho25 (below_size (by repeat (first | (with_reducible first | exact HB.out | apply below_alloc | apply pw_below_drewN | apply below_drew1 | refine below_set ?_ GE170.out | refine below_set ?_ GE171.out) | exact HB.out))))
        have n1_ := Aside0.mk (blk_below (g := gb170) (o := .cells #[.int .i64 a0_0, .int .i64 a0_1, .int .i64 a0_2, .string a0_3] 35 (0, 0)) (by (with_reducible repeat (first | refine blk_drewN ?_ _ | refine blk_drew ?_ | refine blk_alloc ?_ _)); exact BK170.out) hb)
        have n2_ := Aside0.mk (blk_below (g := gb171) (o := .cells #[.int .i64 a1_0, .int .i64 a1_1, .int .i64 a1_2, .string a1_3] 35 (0, 0)) (by (with_reducible repeat (first | refine blk_drewN ?_ _ | refine blk_drew ?_ | refine blk_alloc ?_ _)); exact BK171.out) hb)
        have n3_ := Aside0.mk (below_step (by repeat (first | (with_reducible first | exact HB.out | apply below_alloc | apply pw_below_drewN | apply below_drew1 | refine below_set ?_ GE170.out | refine below_set ?_ GE171.out) | exact HB.out)) hb)
        clear BK170
        clear BK171
        clear HB
        have HO179 := n0_
        have BK170 := n1_
        have BK171 := n2_
        have HB := n3_
        clear n0_ n1_ n2_ n3_
        clear hb ho25
        obtain ⟨Ao26, co26, eo26⟩ := Kd.R_slice HO179.out
        (first | subst eo26 | (injection eo26 with f1_ f2_ f3_; have f4_ := f1_.symm; have f5_ := f3_.symm; clear f1_ f2_ f3_; subst f4_; subst f5_))
        refine hK.out _ _ ⟨(blk_cell BK170.out 0).trans rfl, (blk_cell BK170.out 1).trans rfl, (blk_cell BK170.out 2).trans rfl, (blk_cell BK170.out 3).trans rfl, (blk_cell BK171.out 0).trans rfl, (blk_cell BK171.out 1).trans rfl, (blk_cell BK171.out 2).trans rfl, (blk_cell BK171.out 3).trans rfl⟩ (fun hHeld => ?_)
        clear hK K
        refine norm_ (a' := ?_) ?_ ?_
        rotate_left
        · show Act.put _ (some 29) _ = _
          simp only [Act.put, List.setIfInBounds_toArray, List.set_cons_zero, List.set_cons_succ, i64_w, i32_w]
          rfl
        refine one_ (i := 16) (N := some 30) #[true, true, true, true, true, true, true, true, true, true, true, true, true, true, true, true, true, false] rfl rfl (one_of HT_.out (by kernel_rfl)) (by decide) (fun K hK => ?_)
        refine goes_ Tryz.func80 (by kernel_rfl) rfl #[.slice Ao26 y177.length co26] (by rfl) rfl rfl (by (try simp only [List.map_toArray, List.map_cons, List.map_nil]); first | done | rfl | (simp only [List.length_drop, List.length_take]; rfl)) ?_
        with_reducible refine (cmp_Or_int.calls kj2 _ _ y177 t180 _ ?side1 ?side2 A21.out).mono ?_
        (case side1 => repeat (first | exact (Kd.R_reads' HO179.out).2.2 | (with_reducible refine Kd.C_alloc ?_ _) | (with_reducible refine Kd.C_drewN ?_ _) | (with_reducible refine Kd.C_drew ?_)))
        (case side2 => exact (Kd.R_reads' HO179.out).2.1)
        rintro e w' ⟨rfl, ⟨nd, rfl⟩⟩
        refine ⟨_, rfl, ?_⟩
        refine hK.out _ _ ⟨(blk_cell BK170.out 0).trans rfl, (blk_cell BK170.out 1).trans rfl, (blk_cell BK170.out 2).trans rfl, (blk_cell BK170.out 3).trans rfl, (blk_cell BK171.out 0).trans rfl, (blk_cell BK171.out 1).trans rfl, (blk_cell BK171.out 2).trans rfl, (blk_cell BK171.out 3).trans rfl⟩ (fun hHeld => ?_)
        clear hK K
        refine norm_ (a' := ?_) ?_ ?_
        rotate_left
        · show Act.put _ (some 30) _ = _
          simp only [Act.put, List.setIfInBounds_toArray, List.set_cons_zero, List.set_cons_succ, i64_w, i32_w]
          rfl
        refine pure_ (i := 17) (N := some 5) (v := ?_) (a' := ?_) #[true, true, true, true, true, true, true, true, true, true, true, true, true, true, true, true, true, true] rfl rfl (any_of HT_.out (by kernel_rfl)) (fun _ _ _ h => h) (Or.inl ⟨by rfl, ?_⟩) ?_ ?_
        rotate_left
        · intro w'
          go_simp
          with_reducible rfl
        rotate_left
        · simp only [Act.put, List.setIfInBounds_toArray, List.set_cons_zero, List.set_cons_succ, i64_w, i32_w]
          rfl
        refine done_ (done_of HT_.out (by kernel_rfl)) ?_
        go_upto_region 4 with (fail)
        go_cut [31] (fun v31 wc => ∃ (kq : Nat) (x31_21 : Bool), v31 = .bool x31_21 ∧ Aside0 (version_Compare.j1 kq t180 x31_21 a0_0 a0_1 a0_2 a0_3 a1_0 a1_1 a1_2 a1_3 = some r) ∧ Aside0 (kq ≤ kj2) ∧ Aside0 (wc.heap[gb170]? = some (.cells #[.int .i64 a0_0, .int .i64 a0_1, .int .i64 a0_2, .string a0_3] 35 (0, 0))) ∧ Aside0 (wc.heap[gb171]? = some (.cells #[.int .i64 a1_0, .int .i64 a1_1, .int .i64 a1_2, .string a1_3] 35 (0, 0))) ∧ Aside0 (Below w.heap.size w wc))
        case first =>
          have H := HC22.out
          clear HC22
          by_cases c27 : t180 = 0
          · rw [if_pos c27] at H
            have c27b0 : (t180 == 0) = true := beq_iff_eq.mpr c27
            have c27b1 : (t180 != 0) = false := bne_eq_false_iff_eq.mpr c27
            clear c27
            (first | rw [c27b0] | (simp only [i64_w, i32_w]; rw [c27b0]) | skip)
            have H' := Aside0.mk H
            clear H
            have hnb28 := NB170_171.out
            have hnc28 := NB171_170.out
            have hcz29_0 : w24.cell? ⟨gb170, 0, none⟩ = some (.int .i64 a0_0) := (blk_cell BK170.out 0).trans rfl
            have hcz29_1 : w24.cell? ⟨gb170, 1, none⟩ = some (.int .i64 a0_1) := (blk_cell BK170.out 1).trans rfl
            have hcz29_2 : w24.cell? ⟨gb170, 2, none⟩ = some (.int .i64 a0_2) := (blk_cell BK170.out 2).trans rfl
            have hcz29_3 : w24.cell? ⟨gb170, 3, none⟩ = some (.string a0_3) := (blk_cell BK170.out 3).trans rfl
            have hfz29_0 := blk_frozen BK170.out 0
            have hfz29_1 := blk_frozen BK170.out 1
            have hfz29_2 := blk_frozen BK170.out 2
            have hfz29_3 := blk_frozen BK170.out 3
            have hcz30_0 : w24.cell? ⟨gb171, 0, none⟩ = some (.int .i64 a1_0) := (blk_cell BK171.out 0).trans rfl
            have hcz30_1 : w24.cell? ⟨gb171, 1, none⟩ = some (.int .i64 a1_1) := (blk_cell BK171.out 1).trans rfl
            have hcz30_2 : w24.cell? ⟨gb171, 2, none⟩ = some (.int .i64 a1_2) := (blk_cell BK171.out 2).trans rfl
            have hcz30_3 : w24.cell? ⟨gb171, 3, none⟩ = some (.string a1_3) := (blk_cell BK171.out 3).trans rfl
            have hfz30_0 := blk_frozen BK171.out 0
            have hfz30_1 := blk_frozen BK171.out 1
            have hfz30_2 := blk_frozen BK171.out 2
            have hfz30_3 := blk_frozen BK171.out 3
            go_wp2
            go_meet
            case rel => exact ⟨_, ((a0_3.toList == a1_3.toList)), (by first | rfl | (simp; done) | (simp [*]; done) | exact Go.Proofs.YtijooffpjfhidaaGreatDoor.Aid.ret_ne _ | exact Go.Proofs.YtijooffpjfhidaaGreatDoor.Aid.ret_eq _), H', ⟨by have := HJ2.out; first | omega | exact Nat.le_refl _⟩, ⟨by (with_reducible repeat (first | refine blk_drewN ?_ _ | refine blk_drew ?_ | refine blk_alloc ?_ _)); exact BK170.out⟩, ⟨by (with_reducible repeat (first | refine blk_drewN ?_ _ | refine blk_drew ?_ | refine blk_alloc ?_ _)); exact BK171.out⟩, ⟨by repeat (first | (with_reducible first | exact HB.out | apply below_alloc | apply pw_below_drewN | apply below_drew1 | refine below_set ?_ GE170.out | refine below_set ?_ GE171.out) | exact HB.out)⟩⟩
          · rw [if_neg c27] at H
            have c27b0 : (t180 == 0) = false := beq_eq_false_iff_ne.mpr c27
            have c27b1 : (t180 != 0) = true := bne_iff_ne.mpr c27
            (first | rw [c27b0] | (simp only [i64_w, i32_w]; rw [c27b0]) | skip)
            have H' := Aside0.mk H
            clear H
            go_wp2
            go_meet
            case rel => exact ⟨_, (true), (by first | rfl | (simp; done) | (simp [*]; done) | exact Go.Proofs.YtijooffpjfhidaaGreatDoor.Aid.ret_ne _ | exact Go.Proofs.YtijooffpjfhidaaGreatDoor.Aid.ret_eq _), H', ⟨by have := HJ2.out; first | omega | exact Nat.le_refl _⟩, ⟨by (with_reducible repeat (first | refine blk_drewN ?_ _ | refine blk_drew ?_ | refine blk_alloc ?_ _)); exact BK170.out⟩, ⟨by (with_reducible repeat (first | refine blk_drewN ?_ _ | refine blk_drew ?_ | refine blk_alloc ?_ _)); exact BK171.out⟩, ⟨by repeat (first | (with_reducible first | exact HB.out | apply below_alloc | apply pw_below_drewN | apply below_drew1 | refine below_set ?_ GE170.out | refine below_set ?_ GE171.out) | exact HB.out)⟩⟩
        case rest =>
          clear HC22
          try clear c1
          try clear c2
          try clear p2
          try clear c3
          try clear c6
          try clear c7
          try clear c8
          try clear c9
          try clear c14
          try clear c17
          try clear c27
          try clear c27b0
          try clear c27b1
          try clear c28
          try clear hcz10_0
          try clear hcz10_1
          try clear hcz10_2
          try clear hcz10_3
          try clear hcz12_0
          try clear hcz12_1
          try clear hcz12_2
          try clear hcz12_3
          try clear hcz15_0
          try clear hcz15_1
          try clear hcz15_2
          try clear hcz15_3
          try clear hcz29_0
          try clear hcz29_1
          try clear hcz29_2
          try clear hcz29_3
          try clear hcz30_0
          try clear hcz30_1
          try clear hcz30_2
          try clear hcz30_3
          try clear hfz10_0
          try clear hfz10_1
          try clear hfz10_2
          try clear hfz10_3
          try clear hfz12_0
          try clear hfz12_1
          try clear hfz12_2
          try clear hfz12_3
          try clear hfz15_0
          try clear hfz15_1
          try clear hfz15_2
          try clear hfz15_3
          try clear hfz29_0
          try clear hfz29_1
          try clear hfz29_2
          try clear hfz29_3
          try clear hfz30_0
          try clear hfz30_1
          try clear hfz30_2
          try clear hfz30_3
          try clear p2
          obtain ⟨kq, x31_21, rfl, HA, HJ21, BK170, BK171, HB⟩ := hcut
          cases kq with
          | zero => exact absurd HA.out (by simp [version_Compare.j1])
          | succ kj21 =>
            have H := HA.out
            clear HA
            simp only [version_Compare.j1] at H
            by_cases c31 : x31_21 = true
            · subst c31
              have H1 : (some t180) = some r := by rw [if_pos rfl] at H; exact H
              clear H
              have H := H1
              clear H1
              obtain rfl := Option.some.inj H
              go_wp2
              go_ret
              exact ⟨by first | rfl | (simp [errW_none, errW_some] <;> rfl) | (simp [*, errW_none, errW_some] <;> rfl), by repeat (first | (with_reducible first | exact HB.out | apply below_alloc | apply pw_below_drewN | apply below_drew1 | refine below_set ?_ GE170.out | refine below_set ?_ GE171.out) | exact HB.out)⟩
            · replace c31 := Bool.eq_false_iff.mpr c31
              subst c31
              have H1 : (if a0_3.toList = ([] : List UInt8) then (some 1) else (if a1_3.toList = ([] : List UInt8) then (some (-1)) else ((strings_Split.f kj21 a0_3 (⟨#[46]⟩ : ByteArray)).bind fun t181 => ((strings_Split.f kj21 a1_3 (⟨#[46]⟩ : ByteArray)).bind fun t184 => ((version_rows_string.f kj21 t181 t184 ()).bind fun t187 => (some t187)))))) = some r := by rw [if_neg (show ¬ (false = true) by decide)] at H; exact H
              clear H
              have H := H1
              clear H1
              by_cases c32 : a0_3.toList = ([] : List UInt8)
              · rw [if_pos c32] at H
                have c32b0 : (a0_3.toList == ([] : List UInt8)) = true := beq_iff_eq.mpr c32
                have c32b1 : (a0_3.toList != ([] : List UInt8)) = false := bne_eq_false_iff_eq.mpr c32
                clear c32
                obtain rfl := Option.some.inj H
                have hnb33 := NB170_171.out
                have hnc33 := NB171_170.out
                have hcz34_0 : wc.cell? ⟨gb170, 0, none⟩ = some (.int .i64 a0_0) := (blk_cell BK170.out 0).trans rfl
                have hcz34_1 : wc.cell? ⟨gb170, 1, none⟩ = some (.int .i64 a0_1) := (blk_cell BK170.out 1).trans rfl
                have hcz34_2 : wc.cell? ⟨gb170, 2, none⟩ = some (.int .i64 a0_2) := (blk_cell BK170.out 2).trans rfl
                have hcz34_3 : wc.cell? ⟨gb170, 3, none⟩ = some (.string a0_3) := (blk_cell BK170.out 3).trans rfl
                have hfz34_0 := blk_frozen BK170.out 0
                have hfz34_1 := blk_frozen BK170.out 1
                have hfz34_2 := blk_frozen BK170.out 2
                have hfz34_3 := blk_frozen BK170.out 3
                go_wp2
                go_ret
                exact ⟨by first | rfl | (simp [errW_none, errW_some] <;> rfl) | (simp [*, errW_none, errW_some] <;> rfl), by repeat (first | (with_reducible first | exact HB.out | apply below_alloc | apply pw_below_drewN | apply below_drew1 | refine below_set ?_ GE170.out | refine below_set ?_ GE171.out) | exact HB.out)⟩
              · rw [if_neg c32] at H
                have c32b0 : (a0_3.toList == ([] : List UInt8)) = false := beq_eq_false_iff_ne.mpr c32
                have c32b1 : (a0_3.toList != ([] : List UInt8)) = true := bne_iff_ne.mpr c32
                by_cases c35 : a1_3.toList = ([] : List UInt8)
                · rw [if_pos c35] at H
                  have c35b0 : (a1_3.toList == ([] : List UInt8)) = true := beq_iff_eq.mpr c35
                  have c35b1 : (a1_3.toList != ([] : List UInt8)) = false := bne_eq_false_iff_eq.mpr c35
                  clear c35
                  obtain rfl := Option.some.inj H
                  have hnb36 := NB170_171.out
                  have hnc36 := NB171_170.out
                  have hcz37_0 : wc.cell? ⟨gb170, 0, none⟩ = some (.int .i64 a0_0) := (blk_cell BK170.out 0).trans rfl
                  have hcz37_1 : wc.cell? ⟨gb170, 1, none⟩ = some (.int .i64 a0_1) := (blk_cell BK170.out 1).trans rfl
                  have hcz37_2 : wc.cell? ⟨gb170, 2, none⟩ = some (.int .i64 a0_2) := (blk_cell BK170.out 2).trans rfl
                  have hcz37_3 : wc.cell? ⟨gb170, 3, none⟩ = some (.string a0_3) := (blk_cell BK170.out 3).trans rfl
                  have hfz37_0 := blk_frozen BK170.out 0
                  have hfz37_1 := blk_frozen BK170.out 1
                  have hfz37_2 := blk_frozen BK170.out 2
                  have hfz37_3 := blk_frozen BK170.out 3
                  have hcz38_0 : wc.cell? ⟨gb171, 0, none⟩ = some (.int .i64 a1_0) := (blk_cell BK171.out 0).trans rfl
                  have hcz38_1 : wc.cell? ⟨gb171, 1, none⟩ = some (.int .i64 a1_1) := (blk_cell BK171.out 1).trans rfl
                  have hcz38_2 : wc.cell? ⟨gb171, 2, none⟩ = some (.int .i64 a1_2) := (blk_cell BK171.out 2).trans rfl
                  have hcz38_3 : wc.cell? ⟨gb171, 3, none⟩ = some (.string a1_3) := (blk_cell BK171.out 3).trans rfl
                  have hfz38_0 := blk_frozen BK171.out 0
                  have hfz38_1 := blk_frozen BK171.out 1
                  have hfz38_2 := blk_frozen BK171.out 2
                  have hfz38_3 := blk_frozen BK171.out 3
                  go_wp2
                  go_ret
                  exact ⟨by first | rfl | (simp [errW_none, errW_some] <;> rfl) | (simp [*, errW_none, errW_some] <;> rfl), by repeat (first | (with_reducible first | exact HB.out | apply below_alloc | apply pw_below_drewN | apply below_drew1 | refine below_set ?_ GE170.out | refine below_set ?_ GE171.out) | exact HB.out)⟩
                · rw [if_neg c35] at H
                  have c35b0 : (a1_3.toList == ([] : List UInt8)) = false := beq_eq_false_iff_ne.mpr c35
                  have c35b1 : (a1_3.toList != ([] : List UInt8)) = true := bne_iff_ne.mpr c35
                  replace H := Option.bind_eq_some_iff.mp H
                  obtain ⟨t181, A390, H⟩ := H
                  replace H : ((strings_Split.f kj21 a1_3 (⟨#[46]⟩ : ByteArray)).bind fun t184 => ((version_rows_string.f kj21 t181 t184 ()).bind fun t187 => (some t187))) = some r := H
                  have A39 := Aside0.mk A390
                  clear A390
                  replace H := Option.bind_eq_some_iff.mp H
                  obtain ⟨t184, A400, H⟩ := H
                  replace H : ((version_rows_string.f kj21 t181 t184 ()).bind fun t187 => (some t187)) = some r := H
                  have A40 := Aside0.mk A400
                  clear A400
                  replace H := Option.bind_eq_some_iff.mp H
                  obtain ⟨t187, A410, H⟩ := H
                  replace H : (some t187) = some r := H
                  have A41 := Aside0.mk A410
                  clear A410
                  obtain rfl := Option.some.inj H
                  have hnb42 := NB170_171.out
                  have hnc42 := NB171_170.out
                  have hcz43_0 : wc.cell? ⟨gb170, 0, none⟩ = some (.int .i64 a0_0) := (blk_cell BK170.out 0).trans rfl
                  have hcz43_1 : wc.cell? ⟨gb170, 1, none⟩ = some (.int .i64 a0_1) := (blk_cell BK170.out 1).trans rfl
                  have hcz43_2 : wc.cell? ⟨gb170, 2, none⟩ = some (.int .i64 a0_2) := (blk_cell BK170.out 2).trans rfl
                  have hcz43_3 : wc.cell? ⟨gb170, 3, none⟩ = some (.string a0_3) := (blk_cell BK170.out 3).trans rfl
                  have hfz43_0 := blk_frozen BK170.out 0
                  have hfz43_1 := blk_frozen BK170.out 1
                  have hfz43_2 := blk_frozen BK170.out 2
                  have hfz43_3 := blk_frozen BK170.out 3
                  have hcz44_0 : wc.cell? ⟨gb171, 0, none⟩ = some (.int .i64 a1_0) := (blk_cell BK171.out 0).trans rfl
                  have hcz44_1 : wc.cell? ⟨gb171, 1, none⟩ = some (.int .i64 a1_1) := (blk_cell BK171.out 1).trans rfl
                  have hcz44_2 : wc.cell? ⟨gb171, 2, none⟩ = some (.int .i64 a1_2) := (blk_cell BK171.out 2).trans rfl
                  have hcz44_3 : wc.cell? ⟨gb171, 3, none⟩ = some (.string a1_3) := (blk_cell BK171.out 3).trans rfl
                  have hfz44_0 := blk_frozen BK171.out 0
                  have hfz44_1 := blk_frozen BK171.out 1
                  have hfz44_2 := blk_frozen BK171.out 2
                  have hfz44_3 := blk_frozen BK171.out 3
                  try go_wp2
                  have n0_ := Aside0.mk (blk_drew BK170.out)
                  have n1_ := Aside0.mk (blk_drew BK171.out)
                  have n2_ := Aside0.mk (below_drew1 HB.out)
                  clear BK170
                  clear BK171
                  clear HB
                  have BK170 := n0_
                  have BK171 := n1_
                  have HB := n2_
                  clear n0_ n1_ n2_
                  refine start_ (n := 8) (S := fun w' => w'.cell? ⟨gb170, 0, none⟩ = some (.int .i64 a0_0) ∧ w'.cell? ⟨gb170, 1, none⟩ = some (.int .i64 a0_1) ∧ w'.cell? ⟨gb170, 2, none⟩ = some (.int .i64 a0_2) ∧ w'.cell? ⟨gb170, 3, none⟩ = some (.string a0_3) ∧ w'.cell? ⟨gb171, 0, none⟩ = some (.int .i64 a1_0) ∧ w'.cell? ⟨gb171, 1, none⟩ = some (.int .i64 a1_1) ∧ w'.cell? ⟨gb171, 2, none⟩ = some (.int .i64 a1_2) ∧ w'.cell? ⟨gb171, 3, none⟩ = some (.string a1_3)) (ds := []) #[false, false, false, false, false, false, false, false] (by kernel_rfl) rfl rfl ⟨(blk_cell BK170.out 0).trans rfl, (blk_cell BK170.out 1).trans rfl, (blk_cell BK170.out 2).trans rfl, (blk_cell BK170.out 3).trans rfl, (blk_cell BK171.out 0).trans rfl, (blk_cell BK171.out 1).trans rfl, (blk_cell BK171.out 2).trans rfl, (blk_cell BK171.out 3).trans rfl⟩ (fun hHeld => ?_); refine with_tabW version_Compare.tab10 version_Compare.bits10 (fun HT_ HW_ => ?_)
                  generalize wc.drew = w45 at BK170 BK171 HB hHeld ⊢
                  refine pure_ (i := 0) (N := some 50) (v := ?_) (a' := ?_) #[true, false, false, false, false, false, false, false] rfl rfl (any_of HT_.out (by kernel_rfl)) (fun _ _ _ h => h) (Or.inl ⟨by rfl, ?_⟩) ?_ ?_
                  rotate_left
                  · intro w'
                    go_simp
                    with_reducible rfl
                  rotate_left
                  · simp only [Act.put, List.setIfInBounds_toArray, List.set_cons_zero, List.set_cons_succ, i64_w, i32_w]
                    rfl
                  refine pure_ (i := 3) (N := some 53) (v := ?_) (a' := ?_) #[true, false, false, true, false, false, false, false] rfl rfl (any_of HT_.out (by kernel_rfl)) (fun _ _ _ h => h) (Or.inl ⟨by rfl, ?_⟩) ?_ ?_
                  rotate_left
                  · intro w'
                    go_simp
                    with_reducible rfl
                  rotate_left
                  · simp only [Act.put, List.setIfInBounds_toArray, List.set_cons_zero, List.set_cons_succ, i64_w, i32_w]
                    rfl
                  refine take_ (i := 1) (N := some 51) (v := ?_) (a' := ?_) #[true, true, false, true, false, false, false, false] rfl rfl (take_ofW HT_.out HW_.out (by kernel_rfl)) (fun _ _ _ h => h) (Or.inl ⟨by rfl, ?_⟩) hHeld ?_ ?_
                  rotate_left
                  · rintro w' ⟨s0, s1, s2, s3, s4, s5, s6, s7⟩
                    go_simp
                    with_reducible rfl
                  rotate_left
                  · simp only [Act.put, List.setIfInBounds_toArray, List.set_cons_zero, List.set_cons_succ, i64_w, i32_w]
                    rfl
                  refine take_ (i := 4) (N := some 54) (v := ?_) (a' := ?_) #[true, true, false, true, true, false, false, false] rfl rfl (take_ofW HT_.out HW_.out (by kernel_rfl)) (fun _ _ _ h => h) (Or.inl ⟨by rfl, ?_⟩) hHeld ?_ ?_
                  rotate_left
                  · rintro w' ⟨s0, s1, s2, s3, s4, s5, s6, s7⟩
                    go_simp
                    with_reducible rfl
                  rotate_left
                  · simp only [Act.put, List.setIfInBounds_toArray, List.set_cons_zero, List.set_cons_succ, i64_w, i32_w]
                    rfl
                  refine one_ (i := 2) (N := some 52) #[true, true, true, true, true, false, false, false] rfl rfl (one_of HT_.out (by kernel_rfl)) (by decide) (fun K hK => ?_)
                  refine goes_ Tryz.func73 (by kernel_rfl) rfl #[.string a0_3, .string (⟨#[46]⟩ : ByteArray)] (by rfl) rfl rfl (by (try simp only [List.map_toArray, List.map_cons, List.map_nil]); first | done | rfl | (simp only [List.length_drop, List.length_take]; rfl)) ?_
                  with_reducible refine (strings_Split.calls kj21 a0_3 (⟨#[46]⟩ : ByteArray) t181 _ A39.out).mono ?_
                  rintro e w46 ⟨v182, rfl, ho0, hb⟩
                  refine ⟨_, rfl, ?_⟩
                  have n0_ := Aside0.mk (Kd.R_lower ho0 (below_size (by repeat (first | (with_reducible first | exact HB.out | apply below_alloc | apply pw_below_drewN | apply below_drew1 | refine below_set ?_ GE170.out | refine below_set ?_ GE171.out) | exact HB.out))))
                  have n1_ := Aside0.mk (blk_below (g := gb170) (o := .cells #[.int .i64 a0_0, .int .i64 a0_1, .int .i64 a0_2, .string a0_3] 35 (0, 0)) (by (with_reducible repeat (first | refine blk_drewN ?_ _ | refine blk_drew ?_ | refine blk_alloc ?_ _)); exact BK170.out) hb)
                  have n2_ := Aside0.mk (blk_below (g := gb171) (o := .cells #[.int .i64 a1_0, .int .i64 a1_1, .int .i64 a1_2, .string a1_3] 35 (0, 0)) (by (with_reducible repeat (first | refine blk_drewN ?_ _ | refine blk_drew ?_ | refine blk_alloc ?_ _)); exact BK171.out) hb)
                  have n3_ := Aside0.mk (below_step (by repeat (first | (with_reducible first | exact HB.out | apply below_alloc | apply pw_below_drewN | apply below_drew1 | refine below_set ?_ GE170.out | refine below_set ?_ GE171.out) | exact HB.out)) hb)
                  clear BK170
                  clear BK171
                  clear HB
                  have HO183 := n0_
                  have BK170 := n1_
                  have BK171 := n2_
                  have HB := n3_
                  clear n0_ n1_ n2_ n3_
                  (try clear hb)
                  (try clear hb2)
                  (try clear hk)
                  (try clear hi)
                  (try clear ho0)
                  refine hK.out _ _ ⟨(blk_cell BK170.out 0).trans rfl, (blk_cell BK170.out 1).trans rfl, (blk_cell BK170.out 2).trans rfl, (blk_cell BK170.out 3).trans rfl, (blk_cell BK171.out 0).trans rfl, (blk_cell BK171.out 1).trans rfl, (blk_cell BK171.out 2).trans rfl, (blk_cell BK171.out 3).trans rfl⟩ (fun hHeld => ?_)
                  clear hK K
                  refine norm_ (a' := ?_) ?_ ?_
                  rotate_left
                  · show Act.put _ (some 52) _ = _
                    simp only [Act.put, List.setIfInBounds_toArray, List.set_cons_zero, List.set_cons_succ, i64_w, i32_w]
                    rfl
                  refine one_ (i := 5) (N := some 55) #[true, true, true, true, true, true, false, false] rfl rfl (one_of HT_.out (by kernel_rfl)) (by decide) (fun K hK => ?_)
                  refine goes_ Tryz.func73 (by kernel_rfl) rfl #[.string a1_3, .string (⟨#[46]⟩ : ByteArray)] (by rfl) rfl rfl (by (try simp only [List.map_toArray, List.map_cons, List.map_nil]); first | done | rfl | (simp only [List.length_drop, List.length_take]; rfl)) ?_
                  with_reducible refine (strings_Split.calls kj21 a1_3 (⟨#[46]⟩ : ByteArray) t184 _ A40.out).mono ?_
                  rintro e w47 ⟨v185, rfl, ho0, hb⟩
                  refine ⟨_, rfl, ?_⟩
                  have n0_ := Aside0.mk (Kd.R_elder' (by (with_reducible repeat (first | apply Kd.R_alloc | apply Kd.R_drewN | apply Kd.R_drew)); exact HO183.out) (Kd.R_base ho0) hb)
                  have n1_ := Aside0.mk (Kd.R_lower (Kd.R_new' ho0 (Kd.R_lt (by (with_reducible repeat (first | apply Kd.R_alloc | apply Kd.R_drewN | apply Kd.R_drew)); exact HO183.out))) (below_size (by repeat (first | (with_reducible first | exact HB.out | apply below_alloc | apply pw_below_drewN | apply below_drew1 | refine below_set ?_ GE170.out | refine below_set ?_ GE171.out) | exact HB.out))))
                  have n2_ := Aside0.mk (blk_below (g := gb170) (o := .cells #[.int .i64 a0_0, .int .i64 a0_1, .int .i64 a0_2, .string a0_3] 35 (0, 0)) (by (with_reducible repeat (first | refine blk_drewN ?_ _ | refine blk_drew ?_ | refine blk_alloc ?_ _)); exact BK170.out) hb)
                  have n3_ := Aside0.mk (blk_below (g := gb171) (o := .cells #[.int .i64 a1_0, .int .i64 a1_1, .int .i64 a1_2, .string a1_3] 35 (0, 0)) (by (with_reducible repeat (first | refine blk_drewN ?_ _ | refine blk_drew ?_ | refine blk_alloc ?_ _)); exact BK171.out) hb)
                  have n4_ := Aside0.mk (below_step (by repeat (first | (with_reducible first | exact HB.out | apply below_alloc | apply pw_below_drewN | apply below_drew1 | refine below_set ?_ GE170.out | refine below_set ?_ GE171.out) | exact HB.out)) hb)
                  clear HO183
                  clear BK170
                  clear BK171
                  clear HB
                  have HO183 := n0_
                  have HO186 := n1_
                  have BK170 := n2_
                  have BK171 := n3_
                  have HB := n4_
                  clear n0_ n1_ n2_ n3_ n4_
                  (try clear hb)
                  (try clear hb2)
                  (try clear hk)
                  (try clear hi)
                  (try clear ho0)
                  obtain ⟨Ao48, co48, eo48⟩ := Kd.R_slice HO183.out
                  (first | subst eo48 | (injection eo48 with f1_ f2_ f3_; have f4_ := f1_.symm; have f5_ := f3_.symm; clear f1_ f2_ f3_; subst f4_; subst f5_))
                  obtain ⟨Ao49, co49, eo49⟩ := Kd.R_slice HO186.out
                  (first | subst eo49 | (injection eo49 with f1_ f2_ f3_; have f4_ := f1_.symm; have f5_ := f3_.symm; clear f1_ f2_ f3_; subst f4_; subst f5_))
                  refine hK.out _ _ ⟨(blk_cell BK170.out 0).trans rfl, (blk_cell BK170.out 1).trans rfl, (blk_cell BK170.out 2).trans rfl, (blk_cell BK170.out 3).trans rfl, (blk_cell BK171.out 0).trans rfl, (blk_cell BK171.out 1).trans rfl, (blk_cell BK171.out 2).trans rfl, (blk_cell BK171.out 3).trans rfl⟩ (fun hHeld => ?_)
                  clear hK K
                  refine norm_ (a' := ?_) ?_ ?_
                  rotate_left
                  · show Act.put _ (some 55) _ = _
                    simp only [Act.put, List.setIfInBounds_toArray, List.set_cons_zero, List.set_cons_succ, i64_w, i32_w]
                    rfl
                  refine one_ (i := 6) (N := some 56) #[true, true, true, true, true, true, true, false] rfl rfl (one_of HT_.out (by kernel_rfl)) (by decide) (fun K hK => ?_)
                  refine goes_ Tryz.func82 (by kernel_rfl) rfl #[.slice Ao48 t181.length co48, .slice Ao49 t184.length co49, .func (.func 83) #[] #[]] (by rfl) rfl rfl (by (try simp only [List.map_toArray, List.map_cons, List.map_nil]); first | done | rfl | (simp only [List.length_drop, List.length_take]; rfl)) ?_
                  with_reducible refine (version_rows_string.calls kj21 _ _ t181 _ _ t184 () t187 _ ?side1 ?side2 ?side3 ?side4 A41.out (by first | exact hLD | exact LD.below hLD (by repeat (first | exact HB.out | exact Below.refl _ _ | exact Aside0.out (by assumption) | apply below_alloc | apply pw_below_drewN | apply below_drew1 | refine below_set ?_ ?_)))).mono ?_
                  (case side1 => repeat (first | exact (Kd.R_reads' HO183.out).2.2 | (with_reducible refine Kd.C_alloc ?_ _) | (with_reducible refine Kd.C_drewN ?_ _) | (with_reducible refine Kd.C_drew ?_)))
                  (case side2 => exact (Kd.R_reads' HO183.out).2.1)
                  (case side3 => repeat (first | exact (Kd.R_reads' HO186.out).2.2 | (with_reducible refine Kd.C_alloc ?_ _) | (with_reducible refine Kd.C_drewN ?_ _) | (with_reducible refine Kd.C_drew ?_)))
                  (case side4 => exact (Kd.R_reads' HO186.out).2.1)
                  rintro e w50 ⟨rfl, hb⟩
                  refine ⟨_, rfl, ?_⟩
                  have n0_ := Aside0.mk (Kd.R_below (by (with_reducible repeat (first | apply Kd.R_alloc | apply Kd.R_drewN | apply Kd.R_drew)); exact HO183.out) hb)
                  have n1_ := Aside0.mk (Kd.R_below (by (with_reducible repeat (first | apply Kd.R_alloc | apply Kd.R_drewN | apply Kd.R_drew)); exact HO186.out) hb)
                  have n2_ := Aside0.mk (blk_below (g := gb170) (o := .cells #[.int .i64 a0_0, .int .i64 a0_1, .int .i64 a0_2, .string a0_3] 35 (0, 0)) (by (with_reducible repeat (first | refine blk_drewN ?_ _ | refine blk_drew ?_ | refine blk_alloc ?_ _)); exact BK170.out) hb)
                  have n3_ := Aside0.mk (blk_below (g := gb171) (o := .cells #[.int .i64 a1_0, .int .i64 a1_1, .int .i64 a1_2, .string a1_3] 35 (0, 0)) (by (with_reducible repeat (first | refine blk_drewN ?_ _ | refine blk_drew ?_ | refine blk_alloc ?_ _)); exact BK171.out) hb)
                  have n4_ := Aside0.mk (below_step (by repeat (first | (with_reducible first | exact HB.out | apply below_alloc | apply pw_below_drewN | apply below_drew1 | refine below_set ?_ GE170.out | refine below_set ?_ GE171.out) | exact HB.out)) hb)
                  clear HO183
                  clear HO186
                  clear BK170
                  clear BK171
                  clear HB
                  have HO183 := n0_
                  have HO186 := n1_
                  have BK170 := n2_
                  have BK171 := n3_
                  have HB := n4_
                  clear n0_ n1_ n2_ n3_ n4_
                  (try clear hb)
                  (try clear hb2)
                  (try clear hk)
                  (try clear hi)
                  refine hK.out _ _ ⟨(blk_cell BK170.out 0).trans rfl, (blk_cell BK170.out 1).trans rfl, (blk_cell BK170.out 2).trans rfl, (blk_cell BK170.out 3).trans rfl, (blk_cell BK171.out 0).trans rfl, (blk_cell BK171.out 1).trans rfl, (blk_cell BK171.out 2).trans rfl, (blk_cell BK171.out 3).trans rfl⟩ (fun hHeld => ?_)
                  clear hK K
                  refine norm_ (a' := ?_) ?_ ?_
                  rotate_left
                  · show Act.put _ (some 56) _ = _
                    simp only [Act.put, List.setIfInBounds_toArray, List.set_cons_zero, List.set_cons_succ, i64_w, i32_w]
                    rfl
                  refine pure_ (i := 7) (N := some 4) (v := ?_) (a' := ?_) #[true, true, true, true, true, true, true, true] rfl rfl (any_of HT_.out (by kernel_rfl)) (fun _ _ _ h => h) (Or.inl ⟨by rfl, ?_⟩) ?_ ?_
                  rotate_left
                  · intro w'
                    go_simp
                    with_reducible rfl
                  rotate_left
                  · simp only [Act.put, List.setIfInBounds_toArray, List.set_cons_zero, List.set_cons_succ, i64_w, i32_w]
                    rfl
                  refine done_ (done_of HT_.out (by kernel_rfl)) ?_
                  try go_wp2
                  go_ret
                  exact ⟨by first | rfl | (simp [errW_none, errW_some] <;> rfl) | (simp [*, errW_none, errW_some] <;> rfl), by repeat (first | (with_reducible first | exact HB.out | apply below_alloc | apply pw_below_drewN | apply below_drew1 | refine below_set ?_ GE170.out | refine below_set ?_ GE171.out) | exact HB.out)⟩
end Go.Proofs.YtijooffpjfhidaaGreatDoor.G
end
section
namespace Go.Proofs.YtijooffpjfhidaaGreatDoor.G
open Go.RowKit Go.Proofs.YtijooffpjfhidaaGreatDoorW.PrintWords Go.Proofs.YtijooffpjfhidaaGreatDoorW.PrintLast Go.Proofs.YtijooffpjfhidaaGreatDoorW.PrintMore
attribute [local go_sem] Go.Proofs.YtijooffpjfhidaaGreatDoor.Aid.gtr_string max2_int min2_int max_two min_two max_three min_three max_four min_four
set_option linter.unusedVariables false
set_option linter.unusedSimpArgs false
def span_holds.is (o c : Int) : Bool := if o = 1 then c == 0 else if o = 2 then decide (c < 0) else if o = 3 then decide (c ≤ 0) else if o = 4 then decide (c > 0) else decide (c ≥ 0)
def span_holds.f (k : Nat) (a0_0 : Int) (a0_1 : Int) (a0_2 : Int) (a0_3 : Int) (a0_4 : ByteArray) (a1_0 : Int) (a1_1 : Int) (a1_2 : Int) (a1_3 : ByteArray) : Option Bool :=
  (version_Compare.f k a1_0 a1_1 a1_2 a1_3 a0_1 a0_2 a0_3 a0_4).bind fun c => some (span_holds.is a0_0 c)
section
open Lib
set_option maxRecDepth 100000 in
set_option maxHeartbeats 4000000 in
theorem span_holds.calls (k : Nat) (a0_0 : Int) (a0_1 : Int) (a0_2 : Int) (a0_3 : Int) (a0_4 : ByteArray) (a1_0 : Int) (a1_1 : Int) (a1_2 : Int) (a1_3 : ByteArray) (r : Bool) (w : World) (h : span_holds.f k a0_0 a0_1 a0_2 a0_3 a0_4 a1_0 a1_1 a1_2 a1_3 = some r) (hLD : LD w) :
    Calls Tryz.prog 35 #[.agg #[.int .i64 a0_0, .int .i64 a0_1, .int .i64 a0_2, .int .i64 a0_3, .string a0_4], .agg #[.int .i64 a1_0, .int .i64 a1_1, .int .i64 a1_2, .string a1_3]] w fun e w' => e = .returned (.bool r) ∧ Below w.heap.size w w' := by
  unfold span_holds.f at h
  obtain ⟨c, hc, hr⟩ := Option.bind_eq_some_iff.1 h
  obtain rfl := Option.some.inj hr
  clear h hr
  have hu1 := Tryz.underlying45
  have hu2 := Tryz.underlying35
  have CC := Lib.hid (fun W hW => version_Compare.calls k a1_0 a1_1 a1_2 a1_3 a0_1 a0_2 a0_3 a0_4 c W hc hW)
  have HLD : Hid (∀ o1 o2, LD ((w.alloc o1).alloc o2)) := Lib.hid (fun o1 o2 => hLD.below (((Below.refl _ w).alloc (Nat.le_refl _) _).alloc (by simp) _))
  have HB : Hid (∀ o1 o2 w3, Below ((w.alloc o1).alloc o2).heap.size ((w.alloc o1).alloc o2) w3 → Below w.heap.size w w3) := Lib.hid (fun o1 o2 w3 hb => (((Below.refl _ w).alloc (Nat.le_refl _) _).alloc (by simp) _).trans (hb.mono (by simp; omega)))
  clear hc hLD
  by_cases h1 : a0_0 = 1
  · subst h1
    have hs : span_holds.is 1 c = (c == 0) := rfl
    rw [hs]
    clear hs
    go_enter Tryz.func35, Tryz.ntmps35
    go_wp2_with (first | (go_at_call 60; refine (CC.out _ (HLD.out _ _)).mono ?_; rintro e w3 ⟨rfl, hb⟩; have hbb := HB.out _ _ _ hb) | (go_at_call 56; refine (span_order_equal.calls c _ _ rfl).mono ?_; rintro e w4 ⟨rfl, ⟨n, rfl⟩⟩))
    go_ret
    exact ⟨rfl, pw_below_drewN hbb n⟩
  by_cases h2 : a0_0 = 2
  · subst h2
    have hs : span_holds.is 2 c = decide (c < 0) := rfl
    rw [hs]
    clear hs h1
    go_enter Tryz.func35, Tryz.ntmps35
    go_wp2_with (first | (go_at_call 60; refine (CC.out _ (HLD.out _ _)).mono ?_; rintro e w3 ⟨rfl, hb⟩; have hbb := HB.out _ _ _ hb) | (go_at_call 57; refine (span_order_below.calls c _ _ rfl).mono ?_; rintro e w4 ⟨rfl, ⟨n, rfl⟩⟩))
    go_ret
    exact ⟨rfl, pw_below_drewN hbb n⟩
  by_cases h3 : a0_0 = 3
  · subst h3
    have hs : span_holds.is 3 c = decide (c ≤ 0) := rfl
    rw [hs]
    clear hs h1 h2
    go_enter Tryz.func35, Tryz.ntmps35
    go_wp2_with (first | (go_at_call 60; refine (CC.out _ (HLD.out _ _)).mono ?_; rintro e w3 ⟨rfl, hb⟩; have hbb := HB.out _ _ _ hb) | (go_at_call 58; refine (span_order_most.calls c _ _ rfl).mono ?_; rintro e w4 ⟨rfl, ⟨n, rfl⟩⟩))
    go_ret
    exact ⟨rfl, pw_below_drewN hbb n⟩
  by_cases h4 : a0_0 = 4
  · subst h4
    have hs : span_holds.is 4 c = decide (c > 0) := rfl
    rw [hs]
    clear hs h1 h2 h3
    go_enter Tryz.func35, Tryz.ntmps35
    go_wp2_with (first | (go_at_call 60; refine (CC.out _ (HLD.out _ _)).mono ?_; rintro e w3 ⟨rfl, hb⟩; have hbb := HB.out _ _ _ hb) | (go_at_call 59; refine (span_order_above.calls c _ _ rfl).mono ?_; rintro e w4 ⟨rfl, ⟨n, rfl⟩⟩))
    go_ret
    exact ⟨rfl, pw_below_drewN hbb n⟩
  have hs : span_holds.is a0_0 c = decide (c ≥ 0) := by unfold span_holds.is; rw [if_neg h1, if_neg h2, if_neg h3, if_neg h4]
  rw [hs]
  have b1 : (a0_0 == 1) = false := beq_eq_false_iff_ne.2 h1
  have b2 : (a0_0 == 2) = false := beq_eq_false_iff_ne.2 h2
  have b3 : (a0_0 == 3) = false := beq_eq_false_iff_ne.2 h3
  have b4 : (a0_0 == 4) = false := beq_eq_false_iff_ne.2 h4
  clear hs h1 h2 h3 h4
  go_enter Tryz.func35, Tryz.ntmps35
  go_wp2_with (first | (go_at_call 60; refine (CC.out _ (HLD.out _ _)).mono ?_; rintro e w3 ⟨rfl, hb⟩; have hbb := HB.out _ _ _ hb) | (go_at_call 55; refine (span_order_least.calls c _ _ rfl).mono ?_; rintro e w4 ⟨rfl, ⟨n, rfl⟩⟩))
  go_ret
  exact ⟨rfl, pw_below_drewN hbb n⟩
end
end Go.Proofs.YtijooffpjfhidaaGreatDoor.G
end
section
namespace Go.Proofs.YtijooffpjfhidaaGreatDoor.G
open Go.RowKit Go.Proofs.YtijooffpjfhidaaGreatDoorW.PrintWords Go.Proofs.YtijooffpjfhidaaGreatDoorW.PrintLast Go.Proofs.YtijooffpjfhidaaGreatDoorW.PrintMore
attribute [local go_sem] Go.Proofs.YtijooffpjfhidaaGreatDoor.Aid.gtr_string max2_int min2_int max_two min_two max_three min_three max_four min_four
set_option linter.unusedVariables false
set_option linter.unusedSimpArgs false
def span_near.f (a0_0 : Int) (a0_1 : Int) (a0_2 : Int) (a0_3 : Int) (a0_4 : ByteArray) (a1_0 : Int) (a1_1 : Int) (a1_2 : Int) (a1_3 : ByteArray) : Option (Bool) := if a0_4.toList = ([] : List UInt8) then (some false) else (some (a0_1 == a1_0 && (a0_2 == a1_1 && (a0_3 == a1_2))))
section
set_option maxRecDepth 100000 in
set_option maxHeartbeats 4000000 in
theorem span_near.calls (a0_0 : Int) (a0_1 : Int) (a0_2 : Int) (a0_3 : Int) (a0_4 : ByteArray) (a1_0 : Int) (a1_1 : Int) (a1_2 : Int) (a1_3 : ByteArray) (r : Bool) (w : World) (h : span_near.f a0_0 a0_1 a0_2 a0_3 a0_4 a1_0 a1_1 a1_2 a1_3 = some r) :
    Calls Tryz.prog 36 #[.agg #[.int .i64 a0_0, .int .i64 a0_1, .int .i64 a0_2, .int .i64 a0_3, .string a0_4], .agg #[.int .i64 a1_0, .int .i64 a1_1, .int .i64 a1_2, .string a1_3]] w fun e w' => e = .returned (.bool r) ∧ Below w.heap.size w w' := by
  have hu1 := Tryz.underlying45
  have hu2 := Tryz.underlying35
  unfold span_near.f at h
  by_cases c3 : a0_4.toList = ([] : List UInt8)
  · rw [if_pos c3] at h
    obtain rfl := Option.some.inj h
    clear h
    go_enter Tryz.func36, Tryz.ntmps36
    go_wp2
    go_ret
    exact ⟨rfl, (((Below.refl _ w).alloc (Nat.le_refl _) _).alloc (by simp) _).alloc (by simp; omega) _⟩
  · rw [if_neg c3] at h
    obtain rfl := Option.some.inj h
    clear h
    have c1 : (a0_4.toList != ([] : List UInt8)) = true := bne_iff_ne.mpr c3
    have c2 : a0_4.toList.isEmpty = false := by cases hd : a0_4.toList with
      | nil => exact absurd hd c3
      | cons => rfl
    clear c3
    go_enter Tryz.func36, Tryz.ntmps36
    go_wp2
    all_goals
      go_ret
      refine ⟨?_, (((Below.refl _ w).alloc (Nat.le_refl _) _).alloc (by simp) _).alloc (by simp; omega) _⟩
      first | rfl | (simp; done) | (simp_all; done) | trace_state
end
end Go.Proofs.YtijooffpjfhidaaGreatDoor.G
end
section
namespace Go.Proofs.YtijooffpjfhidaaGreatDoor.G
open Go.RowKit Go.Proofs.YtijooffpjfhidaaGreatDoorW.PrintWords Go.Proofs.YtijooffpjfhidaaGreatDoorW.PrintLast Go.Proofs.YtijooffpjfhidaaGreatDoorW.PrintMore
attribute [local go_sem] Go.Proofs.YtijooffpjfhidaaGreatDoor.Aid.gtr_string max2_int min2_int max_two min_two max_three min_three max_four min_four
set_option linter.unusedVariables false
set_option linter.unusedSimpArgs false
def span_Holds.one (k : Nat) (a1_0 : Int) (a1_1 : Int) (a1_2 : Int) (a1_3 : ByteArray) : List S45 → Bool → Option Bool
  | [], may => some may
  | b :: l, may => (span_holds.f k b.f0 b.f1.f0 b.f1.f1 b.f1.f2 b.f1.f3 a1_0 a1_1 a1_2 a1_3).bind fun g => if g = false then some false else
      (span_near.f b.f0 b.f1.f0 b.f1.f1 b.f1.f2 b.f1.f3 a1_0 a1_1 a1_2 a1_3).bind fun m => span_Holds.one k a1_0 a1_1 a1_2 a1_3 l (may || m)
def span_Holds.any (k : Nat) (a1_0 : Int) (a1_1 : Int) (a1_2 : Int) (a1_3 : ByteArray) : List (List S45) → Option Bool
  | [] => some false
  | l :: r => (span_Holds.one k a1_0 a1_1 a1_2 a1_3 l a1_3.toList.isEmpty).bind fun g => if g = true then some true else span_Holds.any k a1_0 a1_1 a1_2 a1_3 r
def span_Holds.f (k : Nat) (l0_0 : List (List S45)) (a1_0 : Int) (a1_1 : Int) (a1_2 : Int) (a1_3 : ByteArray) : Option Bool :=
  (version_Print.f k a1_0 a1_1 a1_2 a1_3).bind fun p => if p.2 = false then some false else (span_right.f k l0_0).bind fun g => if g = false then some false else span_Holds.any k a1_0 a1_1 a1_2 a1_3 l0_0
theorem span_Holds.keep (w : World) (o1 o2 : Obj) (W : World) (hb : Below ((w.alloc o1).alloc o2).heap.size ((w.alloc o1).alloc o2) W) : W.heap[w.heap.size]? = some o1 ∧ W.heap[w.heap.size + 1]? = some o2 ∧ Below w.heap.size w W := by
  have h0 : Below w.heap.size w ((w.alloc o1).alloc o2) := ((Below.refl _ w).alloc (Nat.le_refl _) _).alloc (by simp) _
  refine ⟨?_, ?_, h0.trans (hb.mono (by simp; omega))⟩
  · rw [hb.block _ (by simp; omega)]
    exact (Below.heap_alloc _ _ _ (by simp)).trans (World.alloc_heap_new w _)
  · rw [hb.block _ (by simp)]
    have := World.alloc_heap_new (w.alloc o1) o2
    rw [World.size_alloc] at this
    exact this
theorem span_Holds.cells {W : World} {b t : Nat} {cs : Array Value} (h : W.heap[b]? = some (.cells cs t (0, 0))) (i : Nat) (v : Value) (hv : cs[i]? = some v) : W.cell? ⟨b, i, none⟩ = some v := by
  simp [World.cell?, h, hv]
theorem span_Holds.plain {W : World} {ad : Addr} {v : Value} (h : W.cell? ad = some v) : ∃ b o, ad = ⟨b, o, none⟩ := by
  obtain ⟨b, o, sp⟩ := ad
  cases sp with
  | none => exact ⟨b, o, rfl⟩
  | some z =>
    unfold World.cell? at h
    split at h
    · simp at h
    · cases h
theorem span_Holds.add (b o n : Nat) : (⟨b, o, none⟩ : Addr).add n = ⟨b, o + n, none⟩ := by unfold Addr.add; split <;> simp_all
theorem span_Holds.at_row {α : Type} {d : Kd α} {e : Nat} {W : World} {A : Option Addr} {l : List (List α)} (h : Kd.C (Kd.slice e d) W A l.length l) (j : Nat) (x : List α) (hx : l[j]? = some x) :
    ∃ b o A' c', A = some ⟨b, o, none⟩ ∧ W.cell? ⟨b, o + j, none⟩ = some (.slice A' x.length c') ∧ x.length ≤ c' ∧ Kd.C d W A' x.length x := by
  obtain ⟨_, _, hcell⟩ := h
  have hj := (List.getElem?_eq_some_iff.1 hx).1
  obtain ⟨ad, rfl, hc⟩ := hcell (by omega)
  obtain ⟨c0, _, ⟨A0, q0, rfl, _, _⟩, hu0⟩ := hc 0 _ (List.getElem?_eq_getElem (by omega))
  obtain ⟨b, o, had⟩ := span_Holds.plain (hu0 0 _ rfl)
  obtain ⟨c, _, ⟨A', c', rfl, hle, hC⟩, hu⟩ := hc j x hx
  have h1 := hu 0 _ rfl
  have hsp : ∃ b o, ad = ⟨b, o, none⟩ := by
    rw [show 0 * (Kd.slice e d).sz + 0 = 0 from by simp] at had
    refine ⟨b, o, ?_⟩
    rw [← had]
    unfold Addr.add; split <;> simp_all
  obtain ⟨b, o, rfl⟩ := hsp
  rw [span_Holds.add, show j * (Kd.slice e d).sz + 0 = j from by show j * 1 + 0 = j; omega] at h1
  exact ⟨b, o, A', c', rfl, h1, hle, hC⟩
theorem span_Holds.at_bound {W : World} {A : Option Addr} {l : List S45} (h : Kd.C k45 W A l.length l) (j : Nat) (x : S45) (hx : l[j]? = some x) :
    ∃ b o, A = some ⟨b, o, none⟩ ∧ W.cell? ⟨b, o + j * 5, none⟩ = some (.int .i64 x.f0) ∧ W.cell? ⟨b, o + j * 5 + 1, none⟩ = some (.int .i64 x.f1.f0) ∧ W.cell? ⟨b, o + j * 5 + 2, none⟩ = some (.int .i64 x.f1.f1) ∧ W.cell? ⟨b, o + j * 5 + 3, none⟩ = some (.int .i64 x.f1.f2) ∧ W.cell? ⟨b, o + j * 5 + 4, none⟩ = some (.string x.f1.f3) := by
  obtain ⟨_, _, hcell⟩ := h
  have hj := (List.getElem?_eq_some_iff.1 hx).1
  obtain ⟨ad, rfl, hc⟩ := hcell (by omega)
  obtain ⟨c, _, ⟨_, _, rfl, rfl, _, _, rfl, rfl, _, _, rfl, rfl, _, _, rfl, rfl, rfl⟩, hu⟩ := hc j x hx
  have h0 := hu 0 _ rfl
  have h1 := hu 1 _ rfl
  have h2 := hu 2 _ rfl
  have h3 := hu 3 _ rfl
  have h4 := hu 4 _ rfl
  have hsp : ∃ b o, ad = ⟨b, o, none⟩ := by
    obtain ⟨c, _, ⟨_, _, rfl, rfl, _⟩, hu⟩ := hc 0 _ (List.getElem?_eq_getElem (by omega))
    obtain ⟨b, o, had⟩ := span_Holds.plain (hu 0 _ rfl)
    rw [show 0 * k45.sz + 0 = 0 from by simp] at had
    refine ⟨b, o, ?_⟩
    rw [← had]
    unfold Addr.add; split <;> simp_all
  obtain ⟨b, o, rfl⟩ := hsp
  have hz : k45.sz = 5 := rfl
  rw [hz, span_Holds.add] at h0 h1 h2 h3 h4
  exact ⟨b, o, rfl, h0, h1, h2, h3, h4⟩
section
open Lib
set_option maxRecDepth 100000 in
set_option maxHeartbeats 8000000 in
theorem span_Holds.calls (k : Nat) (A0_0 : Option Addr) (c0_0 : Nat) (l0_0 : List (List (S45))) (a1_0 : Int) (a1_1 : Int) (a1_2 : Int) (a1_3 : ByteArray) (r : Bool) (w : World) (hr0_0 : Kd.C (Kd.slice 45 k45) w A0_0 l0_0.length l0_0) (hc0_0 : l0_0.length ≤ c0_0) (h : span_Holds.f k l0_0 a1_0 a1_1 a1_2 a1_3 = some r) (hLD : LD w) :
    Calls Tryz.prog 19 #[.agg #[.slice A0_0 l0_0.length c0_0], .agg #[.int .i64 a1_0, .int .i64 a1_1, .int .i64 a1_2, .string a1_3]] w fun e w' => e = .returned (.bool r) ∧ Below w.heap.size w w' := by
  unfold span_Holds.f at h
  obtain ⟨⟨tp, op⟩, hp, h⟩ := Option.bind_eq_some_iff.1 h
  have hu1 := Tryz.underlying24
  have hu2 := Tryz.underlying35
  have hu3 := Tryz.underlying45
  have CP := Lib.hid (fun W hW => version_Print.calls k a1_0 a1_1 a1_2 a1_3 tp op W hp hW)
  clear hp
  have HLD : Hid (∀ o1 o2, LD ((w.alloc o1).alloc o2)) := Lib.hid (fun o1 o2 => hLD.below (((Below.refl _ w).alloc (Nat.le_refl _) _).alloc (by simp) _))
  cases op with
  | false =>
    obtain rfl : false = r := by simpa using h
    clear h
    have HR := Lib.hid hr0_0
    have HC := Lib.hid hc0_0
    clear hr0_0 hc0_0
    go_enter Tryz.func19, Tryz.ntmps19
    go_wp2
    go_step3
    go_wp2_with (first | (go_at_call 21; refine (CP.out _ (HLD.out _ _)).mono ?_; rintro e w3 ⟨rfl, hb⟩))
    rw [Exit.noGoto_ret]
    go_ret
    exact ⟨rfl, (((Below.refl _ w).alloc (Nat.le_refl _) _).alloc (by simp) _).trans (hb.mono (by simp; omega))⟩
  | true =>
    simp only [Bool.true_eq_false, if_false] at h
    obtain ⟨g, hg, h⟩ := Option.bind_eq_some_iff.1 h
    obtain ⟨O1, hO1⟩ : ∃ O1, Obj.cells #[.slice A0_0 l0_0.length c0_0] 24 = O1 := ⟨_, rfl⟩
    have HK : Hid (∀ W, Below ((w.alloc (.cells #[.slice A0_0 l0_0.length c0_0] 24)).alloc (.cells #[.int .i64 a1_0, .int .i64 a1_1, .int .i64 a1_2, .string a1_3] 35)).heap.size ((w.alloc (.cells #[.slice A0_0 l0_0.length c0_0] 24)).alloc (.cells #[.int .i64 a1_0, .int .i64 a1_1, .int .i64 a1_2, .string a1_3] 35)) W →
        W.cell? ⟨w.heap.size, 0, none⟩ = some (.slice A0_0 l0_0.length c0_0) ∧ (W.cell? ⟨w.heap.size + 1, 0, none⟩ = some (.int .i64 a1_0) ∧ W.cell? ⟨w.heap.size + 1, 1, none⟩ = some (.int .i64 a1_1) ∧ W.cell? ⟨w.heap.size + 1, 2, none⟩ = some (.int .i64 a1_2) ∧ W.cell? ⟨w.heap.size + 1, 3, none⟩ = some (.string a1_3)) ∧ Below w.heap.size w W ∧ LD W) := Lib.hid (fun W hb => by
      obtain ⟨h1, h2, h3⟩ := span_Holds.keep w _ _ W hb
      exact ⟨span_Holds.cells h1 0 _ rfl, ⟨span_Holds.cells h2 0 _ rfl, span_Holds.cells h2 1 _ rfl, span_Holds.cells h2 2 _ rfl, span_Holds.cells h2 3 _ rfl⟩, h3, hLD.below h3⟩)
    have CR : Hid (∀ W, Below w.heap.size w W → LD W → Calls Tryz.prog 26 #[.agg #[.slice A0_0 l0_0.length c0_0]] W fun e w' => e = .returned (.bool g) ∧ Below W.heap.size W w') := Lib.hid (fun W hb hl => span_right.calls k A0_0 c0_0 l0_0 g W (Kd.C_below hr0_0 hb) hc0_0 hg hl)
    have HR := Lib.hid hr0_0
    have HC := Lib.hid hc0_0
    have HG := Lib.hid h
    clear hr0_0 hc0_0 hg h hO1
    cases g with
    | false =>
      obtain rfl : false = r := by simpa using HG.out
      go_enter Tryz.func19, Tryz.ntmps19
      go_wp2
      go_step3
      go_wp2_with (first | (go_at_call 21; refine (CP.out _ (HLD.out _ _)).mono ?_; rintro e w3 ⟨rfl, hb⟩; have HB := Lib.hid hb; obtain ⟨p0, ⟨q0, q1, q2, q3⟩, hB3, hL3⟩ := HK.out _ hb) | (go_at_call 26; refine (CR.out _ hB3 hL3).mono ?_; rintro e w4 ⟨rfl, hb4⟩))
      rw [Exit.noGoto_ret]
      go_ret
      exact ⟨rfl, hB3.trans (hb4.mono hB3.size)⟩
    | true =>
      have HG2 : Hid (span_Holds.any k a1_0 a1_1 a1_2 a1_3 l0_0 = some r) := Lib.hid (by simpa using HG.out)
      clear HG
      go_enter Tryz.func19, Tryz.ntmps19
      go_wp2
      go_step3
      go_wp2_with (first | (go_at_call 21; refine (CP.out _ (HLD.out _ _)).mono ?_; rintro e w3 ⟨rfl, hb⟩; have HB := Lib.hid hb; obtain ⟨p0, ⟨q0, q1, q2, q3⟩, hB3, hL3⟩ := HK.out _ hb) | (go_at_call 26; refine (CR.out _ hB3 hL3).mono ?_; rintro e w4 ⟨rfl, hb4⟩; have HB4 := Lib.hid (HB.out.trans (hb4.mono HB.out.size)); clear p0 q0 q1 q2 q3 hb4; obtain ⟨p0, ⟨q0, q1, q2, q3⟩, hB4, hL4⟩ := HK.out _ HB4.out))
      go_step3
      go_wp2
      go_loopg [27] l0_0.length (fun kq v27 W => ∃ (i : Nat), v27 = .int .i64 (i : Nat) ∧ Hid (kq = l0_0.length - i ∧ i ≤ l0_0.length) ∧ Hid (span_Holds.any k a1_0 a1_1 a1_2 a1_3 (l0_0.drop i) = some r) ∧
        Hid (Below ((w.alloc (.cells #[.slice A0_0 l0_0.length c0_0] 24)).alloc (.cells #[.int .i64 a1_0, .int .i64 a1_1, .int .i64 a1_2, .string a1_3] 35)).heap.size ((w.alloc (.cells #[.slice A0_0 l0_0.length c0_0] 24)).alloc (.cells #[.int .i64 a1_0, .int .i64 a1_1, .int .i64 a1_2, .string a1_3] 35)) W))
      case atStart => exact ⟨0, rfl, Lib.hid ⟨rfl, Nat.zero_le _⟩, Lib.hid HG2.out, HB4⟩
      case round =>
        clear p0 q0 q1 q2 q3 hB3 hL3 hB4 hL4 HB hb
        obtain ⟨i, rfl, Hi, Hg, HBW⟩ := hrel
        obtain ⟨p0, ⟨q0, q1, q2, q3⟩, hBW, hLW⟩ := HK.out _ HBW.out
        have hi := Hi.out.2
        have hm : l0_0.length ≤ 9223372036854775807 := HR.out.2.1
        by_cases hlt : i < l0_0.length
        · obtain ⟨x, hx⟩ : ∃ x, l0_0[i]? = some x := ⟨_, List.getElem?_eq_getElem hlt⟩
          obtain ⟨rb, ro, A1, c1, hA, hcell0, hc1, hC1⟩ := span_Holds.at_row HR.out i x hx
          have hcell := pw_cell_below hBW hcell0
          clear hcell0
          have hd : l0_0.drop i = x :: l0_0.drop (i + 1) := by rw [List.drop_eq_getElem_cons hlt, (List.getElem?_eq_some_iff.1 hx).2]
          have hg := Hg.out
          rw [hd] at hg
          simp only [span_Holds.any] at hg
          have HGi := Lib.hid hg
          have HC1 := Lib.hid hC1
          have hm1 : x.length ≤ 9223372036854775807 := hC1.2.1
          subst hA
          clear hg hd hC1 hx
          go_wp2
          go_loopg [9, 36] x.length (fun kq v9 v36 W => ∃ (j : Nat) (may : Bool), v9 = .bool may ∧ v36 = .int .i64 (j : Nat) ∧ Hid (kq = x.length - j ∧ j ≤ x.length) ∧
            Hid (((span_Holds.one k a1_0 a1_1 a1_2 a1_3 (x.drop j) may).bind fun g => if g = true then some true else span_Holds.any k a1_0 a1_1 a1_2 a1_3 (l0_0.drop (i + 1))) = some r) ∧
            Hid (Below ((w.alloc (.cells #[.slice (some ⟨rb, ro, none⟩) l0_0.length c0_0] 24)).alloc (.cells #[.int .i64 a1_0, .int .i64 a1_1, .int .i64 a1_2, .string a1_3] 35)).heap.size ((w.alloc (.cells #[.slice (some ⟨rb, ro, none⟩) l0_0.length c0_0] 24)).alloc (.cells #[.int .i64 a1_0, .int .i64 a1_1, .int .i64 a1_2, .string a1_3] 35)) W))
          case atStart => exact ⟨0, _, rfl, rfl, Lib.hid ⟨rfl, Nat.zero_le _⟩, Lib.hid HGi.out, HBW⟩
          case round =>
            clear p0 q0 q1 q2 q3 hBW hLW hcell
            obtain ⟨j, may, rfl, rfl, Hj, Hgj, HBV⟩ := hrel
            obtain ⟨p0, ⟨q0, q1, q2, q3⟩, hBV, hLV⟩ := HK.out _ HBV.out
            have hj := Hj.out.2
            by_cases hjlt : j < x.length
            · obtain ⟨b, hbx⟩ : ∃ b, x[j]? = some b := ⟨_, List.getElem?_eq_getElem hjlt⟩
              obtain ⟨eb, eo, hA1, e0, e1, e2, e3, e4⟩ := span_Holds.at_bound (Kd.C_below HC1.out hBV) j b hbx
              have hdj : x.drop j = b :: x.drop (j + 1) := by rw [List.drop_eq_getElem_cons hjlt, (List.getElem?_eq_some_iff.1 hbx).2]
              have hgj := Hgj.out
              rw [hdj] at hgj
              simp only [span_Holds.one] at hgj
              obtain ⟨o1, hoa, hgk⟩ := Option.bind_eq_some_iff.1 hgj
              clear hgj
              obtain ⟨gh, hgh, ho1⟩ := Option.bind_eq_some_iff.1 hoa
              clear hoa
              obtain ⟨⟨b0, ⟨b1, b2, b3, b4⟩⟩, hbe⟩ : ∃ y, b = y := ⟨_, rfl⟩
              subst hbe
              simp only at e0 e1 e2 e3 e4 ho1 hgh
              have CH := Lib.hid (fun W hW => span_holds.calls k b0 b1 b2 b3 b4 a1_0 a1_1 a1_2 a1_3 gh W hgh hW)
              have HBA := Lib.hid (HBV.out.alloc HBV.out.size (Obj.cells #[.int .i64 b0, .int .i64 b1, .int .i64 b2, .int .i64 b3, .string b4] 45))
              subst hA1
              obtain ⟨_, ⟨r0, r1, r2, r3⟩, hBA, hLA⟩ := HK.out _ HBA.out
              have Hho := Lib.hid ho1
              have Hgo := Lib.hid hgk
              clear ho1 hgk hgh hdj hbx
              cases gh with
              | false =>
                have hf : false = o1 := by simpa using Hho.out
                subst hf
                have Hn : Hid (span_Holds.any k a1_0 a1_1 a1_2 a1_3 (l0_0.drop (i + 1)) = some r) := Lib.hid (by simpa using Hgo.out)
                clear Hgo Hho
                go_wp2_with (first | (go_at_call 35; refine (CH.out _ hLA).mono ?_; rintro e w7 ⟨rfl, hb7⟩; have HB7 := Lib.hid (HBA.out.trans (hb7.mono HBA.out.size)); have hk7 := (hb7.block _ (by simp)).trans (World.alloc_heap_new wr _); obtain ⟨_, ⟨s0, s1, s2, s3⟩, hB7, hL7⟩ := HK.out _ HB7.out; have n0 := span_Holds.cells hk7 0 _ rfl; have n1 := span_Holds.cells hk7 1 _ rfl; have n2 := span_Holds.cells hk7 2 _ rfl; have n3 := span_Holds.cells hk7 3 _ rfl; have n4 := span_Holds.cells hk7 4 _ rfl; clear hk7))
                go_roundg (l0_0.length - (i + 1))
                case rel => exact ⟨i + 1, by go_num, Lib.hid ⟨rfl, by omega⟩, Hn, HB7⟩
                case measure => have := Hi.out.1; omega
              | true =>
                obtain ⟨m, hm, ho2⟩ := Option.bind_eq_some_iff.1 (show ((span_near.f b0 b1 b2 b3 b4 a1_0 a1_1 a1_2 a1_3).bind fun m => span_Holds.one k a1_0 a1_1 a1_2 a1_3 (x.drop (j + 1)) (may || m)) = some o1 by simpa using Hho.out)
                have Hm := Lib.hid hm
                have Hn : Hid (((span_Holds.one k a1_0 a1_1 a1_2 a1_3 (x.drop (j + 1)) (may || m)).bind fun g => if g = true then some true else span_Holds.any k a1_0 a1_1 a1_2 a1_3 (l0_0.drop (i + 1))) = some r) := Lib.hid (by rw [ho2]; exact Hgo.out)
                clear Hgo Hho hm ho2
                cases may with
                | true =>
                  go_wp2_with (first | (go_at_call 35; refine (CH.out _ hLA).mono ?_; rintro e w7 ⟨rfl, hb7⟩; have HB7 := Lib.hid (HBA.out.trans (hb7.mono HBA.out.size)); have hk7 := (hb7.block _ (by simp)).trans (World.alloc_heap_new wr _); obtain ⟨_, ⟨s0, s1, s2, s3⟩, hB7, hL7⟩ := HK.out _ HB7.out; have n0 := span_Holds.cells hk7 0 _ rfl; have n1 := span_Holds.cells hk7 1 _ rfl; have n2 := span_Holds.cells hk7 2 _ rfl; have n3 := span_Holds.cells hk7 3 _ rfl; have n4 := span_Holds.cells hk7 4 _ rfl; clear hk7))
                  go_roundg (x.length - (j + 1))
                  case rel => exact ⟨j + 1, true, rfl, by go_num, Lib.hid ⟨rfl, by omega⟩, Hn, HB7⟩
                  case measure => have := Hj.out.1; omega
                | false =>
                  go_wp2_with (first | (go_at_call 35; refine (CH.out _ hLA).mono ?_; rintro e w7 ⟨rfl, hb7⟩; have HB7 := Lib.hid (HBA.out.trans (hb7.mono HBA.out.size)); have hk7 := (hb7.block _ (by simp)).trans (World.alloc_heap_new wr _); obtain ⟨_, ⟨s0, s1, s2, s3⟩, hB7, hL7⟩ := HK.out _ HB7.out; have n0 := span_Holds.cells hk7 0 _ rfl; have n1 := span_Holds.cells hk7 1 _ rfl; have n2 := span_Holds.cells hk7 2 _ rfl; have n3 := span_Holds.cells hk7 3 _ rfl; have n4 := span_Holds.cells hk7 4 _ rfl; clear hk7) | (go_at_call 36; refine (span_near.calls b0 b1 b2 b3 b4 a1_0 a1_1 a1_2 a1_3 m _ Hm.out).mono ?_; rintro e w8 ⟨rfl, hb8⟩))
                  go_roundg (x.length - (j + 1))
                  case rel => exact ⟨j + 1, m, rfl, by go_num, Lib.hid ⟨rfl, by omega⟩, Hn, Lib.hid (HB7.out.trans (hb8.mono HB7.out.size))⟩
                  case measure => have := Hj.out.1; omega
            · have hje : j = x.length := by omega
              have hgj := Hgj.out
              rw [List.drop_of_length_le (by omega)] at hgj
              simp only [span_Holds.one, Option.bind_some] at hgj
              cases may with
              | true =>
                obtain rfl : true = r := by simpa using hgj
                clear hgj
                go_wp2
                rw [Exit.noGoto_ret]
                go_ret
                exact ⟨rfl, hBV⟩
              | false =>
                have Hn := Lib.hid (show span_Holds.any k a1_0 a1_1 a1_2 a1_3 (l0_0.drop (i + 1)) = some r by simpa using hgj)
                clear hgj
                go_wp2
                go_roundg (l0_0.length - (i + 1))
                case rel => exact ⟨i + 1, by go_num, Lib.hid ⟨rfl, by omega⟩, Hn, HBV⟩
                case measure => have := Hi.out.1; omega
        · have hie : i = l0_0.length := by omega
          have hr : false = r := by
            have := Hg.out
            rw [List.drop_of_length_le (by omega)] at this
            simpa [span_Holds.any] using this
          subst hr
          go_wp2
          rw [Exit.noGoto_ret]
          go_ret
          exact ⟨rfl, hBW⟩
end
end Go.Proofs.YtijooffpjfhidaaGreatDoor.G
end
section
namespace Go.Proofs.YtijooffpjfhidaaGreatDoor.G
open Go.RowKit Go.Proofs.YtijooffpjfhidaaGreatDoorW.PrintWords Go.Proofs.YtijooffpjfhidaaGreatDoorW.PrintLast Go.Proofs.YtijooffpjfhidaaGreatDoorW.PrintMore
attribute [local go_sem] Go.Proofs.YtijooffpjfhidaaGreatDoor.Aid.gtr_string max2_int min2_int max_two min_two max_three min_three max_four min_four
set_option linter.unusedVariables false
set_option linter.unusedSimpArgs false
def strings_Join.f (l0 : List ByteArray) (a1 : ByteArray) : Option ByteArray :=
  if l0.length ≤ 140737488355328 then (if (Lib.join (l0.map (·.data.toList)) a1.data.toList).length ≤ 140737488355328 then some ⟨(Lib.join (l0.map (·.data.toList)) a1.data.toList).toArray⟩ else none) else none
theorem strings_Join.calls (A0 : Option Addr) (c0 : Nat) (l0 : List ByteArray) (a1 : ByteArray) (r : ByteArray) (w : World) (hr0 : Kd.C Kd.string w A0 l0.length l0) (hc0 : l0.length ≤ c0) (h : strings_Join.f l0 a1 = some r) :
    Calls Tryz.prog 31 #[.slice A0 l0.length c0, .string a1] w fun e w' => e = .returned (.string r) ∧ Below w.heap.size w w' := by
  unfold strings_Join.f at h
  split at h
  · rename_i h1
    split at h
    · rename_i h2
      obtain rfl := Option.some.inj h
      by_cases h0 : l0.length = 0
      · have hl : l0 = [] := List.length_eq_zero_iff.1 h0
        subst hl
        refine (Tryz.strings_Join_none A0 c0 a1 w).mono ?_
        rintro e w' ⟨rfl, rfl⟩
        exact ⟨rfl, Below.refl _ _⟩
      · obtain ⟨_, _, hcell⟩ := hr0
        obtain ⟨⟨b, o, sp⟩, rfl, hc⟩ := hcell (by omega)
        have hcell : ∀ (j : Nat) x, l0[j]? = some x → w.cell? ((⟨b, o, sp⟩ : Addr).add j) = some (.string x) := fun j x hx => by
          obtain ⟨c, _, hk, hu⟩ := hc j x hx
          have hk' : c = [Value.string x] := hk
          have := hu 0 (.string x) (by rw [hk']; rfl)
          rw [Nat.add_zero] at this
          rw [show Kd.string.sz = 1 from rfl, Nat.mul_one] at this
          exact this
        have h00 := hcell 0 _ (List.getElem?_eq_getElem (by omega))
        rw [show (⟨b, o, sp⟩ : Addr).add 0 = ⟨b, o, sp⟩ from by simp [Addr.add]] at h00
        have hsp : sp = none := by
          unfold World.cell? at h00
          split at h00
          · cases sp with
            | none => rfl
            | some z => simp at h00
          · cases h00
        subst hsp
        replace hcell : ∀ (j : Nat) x, l0[j]? = some x → w.cell? ⟨b, o + j, none⟩ = some (.string x) := fun j x hx => by
          have := hcell j x hx
          rwa [show (⟨b, o, none⟩ : Addr).add j = ⟨b, o + j, none⟩ from by unfold Addr.add; split <;> simp_all] at this
        have hb : b < w.heap.size := by
          apply Classical.byContradiction
          intro hn
          have : w.heap[b]? = none := Array.getElem?_eq_none_iff.2 (by omega)
          unfold World.cell? at h00
          rw [this] at h00
          cases h00
        refine (Tryz.strings_Join b o c0 l0 a1 w hcell hb h1 hc0 h2).mono ?_
        rintro e w' ⟨rfl, hB⟩
        exact ⟨rfl, hB⟩
    · cases h
  · cases h
end Go.Proofs.YtijooffpjfhidaaGreatDoor.G
end
section
namespace Go.Proofs.YtijooffpjfhidaaGreatDoor.G
open Go.RowKit Go.Proofs.YtijooffpjfhidaaGreatDoorW.PrintWords Go.Proofs.YtijooffpjfhidaaGreatDoorW.PrintLast Go.Proofs.YtijooffpjfhidaaGreatDoorW.PrintMore
attribute [local go_sem] Go.Proofs.YtijooffpjfhidaaGreatDoor.Aid.gtr_string max2_int min2_int max_two min_two max_three min_three max_four min_four
set_option linter.unusedVariables false
set_option linter.unusedSimpArgs false
def span_Print.signs : List (Int × ByteArray) := [(3, ⟨#[60, 61]⟩), (5, ⟨#[62, 61]⟩), (2, ⟨#[60]⟩), (4, ⟨#[62]⟩), (1, ⟨#[61]⟩)]
def span_Print.sg (op : Int) (s : ByteArray) : List (Int × ByteArray) → List ByteArray → Option (List ByteArray)
  | [], ws => some ws
  | x :: xs, ws => if x.1 = op then (if x.2.size + s.size ≤ 9223372036854775807 then (if ws.length < 8796093022208 then span_Print.sg op s xs (ws ++ [x.2 ++ s]) else none) else none) else span_Print.sg op s xs ws
def span_Print.row (k : Nat) : List S45 → List ByteArray → Option (List ByteArray)
  | [], ws => some ws
  | b :: l, ws => (version_Print.f k b.f1.f0 b.f1.f1 b.f1.f2 b.f1.f3).bind fun p => (span_Print.sg b.f0 p.1 span_Print.signs ws).bind fun ws => span_Print.row k l ws
def span_Print.go (k : Nat) : List (List S45) → List ByteArray → Option (List ByteArray)
  | [], all => some all
  | l :: r, all => (span_Print.row k l []).bind fun ws => (strings_Join.f (if ws.length = 0 then [⟨#[42]⟩] else ws) ⟨#[32]⟩).bind fun t => if all.length < 8796093022208 then span_Print.go k r (all ++ [t]) else none
def span_Print.fin (all : List ByteArray) : Option (ByteArray × Bool) := (strings_Join.f all ⟨#[32, 124, 124, 32]⟩).bind fun t => some (t, true)
def span_Print.f (k : Nat) (l0_0 : List (List S45)) : Option (ByteArray × Bool) :=
  (span_right.f k l0_0).bind fun g => if g = false then some (⟨#[]⟩, false) else (span_Print.go k l0_0 []).bind span_Print.fin
def span_Print.add (k : Nat) (r : List (List S45)) (all ws : List ByteArray) : Option (ByteArray × Bool) := ((strings_Join.f (if ws.length = 0 then [⟨#[42]⟩] else ws) ⟨#[32]⟩).bind fun t => if all.length < 8796093022208 then span_Print.go k r (all ++ [t]) else none).bind span_Print.fin
def span_Print.mid (k : Nat) (x : List S45) (r : List (List S45)) (all ws : List ByteArray) : Option (ByteArray × Bool) := (span_Print.row k x ws).bind (span_Print.add k r all)
theorem span_Print.top_cons (k : Nat) (l : List S45) (r : List (List S45)) (all : List ByteArray) : (span_Print.go k (l :: r) all).bind span_Print.fin = span_Print.mid k l r all [] := by
  have : span_Print.add k r all = fun ws => span_Print.add k r all ws := rfl
  rw [span_Print.mid, this]
  simp only [span_Print.go, span_Print.add, Option.bind_assoc]
theorem span_Print.mid_cons (k : Nat) (b : S45) (x : List S45) (r : List (List S45)) (all ws : List ByteArray) : span_Print.mid k (b :: x) r all ws = (version_Print.f k b.f1.f0 b.f1.f1 b.f1.f2 b.f1.f3).bind fun p => (span_Print.sg b.f0 p.1 span_Print.signs ws).bind (span_Print.mid k x r all) := by
  have : span_Print.mid k x r all = fun ws => span_Print.mid k x r all ws := rfl
  rw [this]
  simp only [span_Print.row, span_Print.mid, Option.bind_assoc]
theorem span_Print.sig {w : World} (h : LD w) : w.cell? ⟨0, 0, none⟩ = some (.int .i64 3) ∧ w.cell? ⟨0, 1, none⟩ = some (.string ⟨#[60, 61]⟩) ∧ w.cell? ⟨0, 2, none⟩ = some (.int .i64 5) ∧ w.cell? ⟨0, 3, none⟩ = some (.string ⟨#[62, 61]⟩) ∧ w.cell? ⟨0, 4, none⟩ = some (.int .i64 2) ∧ w.cell? ⟨0, 5, none⟩ = some (.string ⟨#[60]⟩) ∧ w.cell? ⟨0, 6, none⟩ = some (.int .i64 4) ∧ w.cell? ⟨0, 7, none⟩ = some (.string ⟨#[62]⟩) ∧ w.cell? ⟨0, 8, none⟩ = some (.int .i64 1) ∧ w.cell? ⟨0, 9, none⟩ = some (.string ⟨#[61]⟩) := by
  have hg : Tryz.prog.globalNamed "hogget/span.signs" = some 0 := by kernel_rfl
  have hs := h.sig
  have hc : ∀ i, w.cell? ⟨0, i, none⟩ = (#[Value.int .i64 3, .string ⟨#[60, 61]⟩, .int .i64 5, .string ⟨#[62, 61]⟩, .int .i64 2, .string ⟨#[60]⟩, .int .i64 4, .string ⟨#[62]⟩, .int .i64 1, .string ⟨#[61]⟩])[i]? := fun i => by
    unfold World.var? at hs
    rw [hg] at hs
    simp only [Option.bind_some] at hs
    unfold World.cell?
    split at hs
    · rename_i cs tp hh
      obtain rfl := Option.some.inj hs
      rw [hh]
      first | rfl | simp
    · cases hs
  exact ⟨hc 0, hc 1, hc 2, hc 3, hc 4, hc 5, hc 6, hc 7, hc 8, hc 9⟩
theorem span_Print.keep {w W : World} {o : Obj} (hb : Below (w.alloc o).heap.size (w.alloc o) W) : W.heap[w.heap.size]? = some o ∧ Below w.heap.size w W := by
  have h0 : Below w.heap.size w (w.alloc o) := (Below.refl _ w).alloc (Nat.le_refl _) _
  refine ⟨?_, h0.trans (hb.mono (by simp))⟩
  rw [hb.block _ (by simp)]
  exact World.alloc_heap_new w _
theorem span_Print.idx0 (w : World) : (Instr.index 58 (.agg #[.int .i64 3, .string ⟨#[60, 61]⟩, .int .i64 5, .string ⟨#[62, 61]⟩, .int .i64 2, .string ⟨#[60]⟩, .int .i64 4, .string ⟨#[62]⟩, .int .i64 1, .string ⟨#[61]⟩]) (.int .i64 0)).run Tryz.prog w = .ok (.agg #[.int .i64 3, .string ⟨#[60, 61]⟩]) w := by
  have h : Tryz.prog.underlying 58 = some (.array 5 57) := by kernel_rfl
  simp [Instr.index, run_underlying h, asIntOf, go_sem]
theorem span_Print.idx1 (w : World) : (Instr.index 58 (.agg #[.int .i64 3, .string ⟨#[60, 61]⟩, .int .i64 5, .string ⟨#[62, 61]⟩, .int .i64 2, .string ⟨#[60]⟩, .int .i64 4, .string ⟨#[62]⟩, .int .i64 1, .string ⟨#[61]⟩]) (.int .i64 1)).run Tryz.prog w = .ok (.agg #[.int .i64 5, .string ⟨#[62, 61]⟩]) w := by
  have h : Tryz.prog.underlying 58 = some (.array 5 57) := by kernel_rfl
  simp [Instr.index, run_underlying h, asIntOf, go_sem]
theorem span_Print.idx2 (w : World) : (Instr.index 58 (.agg #[.int .i64 3, .string ⟨#[60, 61]⟩, .int .i64 5, .string ⟨#[62, 61]⟩, .int .i64 2, .string ⟨#[60]⟩, .int .i64 4, .string ⟨#[62]⟩, .int .i64 1, .string ⟨#[61]⟩]) (.int .i64 2)).run Tryz.prog w = .ok (.agg #[.int .i64 2, .string ⟨#[60]⟩]) w := by
  have h : Tryz.prog.underlying 58 = some (.array 5 57) := by kernel_rfl
  simp [Instr.index, run_underlying h, asIntOf, go_sem]
theorem span_Print.idx3 (w : World) : (Instr.index 58 (.agg #[.int .i64 3, .string ⟨#[60, 61]⟩, .int .i64 5, .string ⟨#[62, 61]⟩, .int .i64 2, .string ⟨#[60]⟩, .int .i64 4, .string ⟨#[62]⟩, .int .i64 1, .string ⟨#[61]⟩]) (.int .i64 3)).run Tryz.prog w = .ok (.agg #[.int .i64 4, .string ⟨#[62]⟩]) w := by
  have h : Tryz.prog.underlying 58 = some (.array 5 57) := by kernel_rfl
  simp [Instr.index, run_underlying h, asIntOf, go_sem]
theorem span_Print.idx4 (w : World) : (Instr.index 58 (.agg #[.int .i64 3, .string ⟨#[60, 61]⟩, .int .i64 5, .string ⟨#[62, 61]⟩, .int .i64 2, .string ⟨#[60]⟩, .int .i64 4, .string ⟨#[62]⟩, .int .i64 1, .string ⟨#[61]⟩]) (.int .i64 4)).run Tryz.prog w = .ok (.agg #[.int .i64 1, .string ⟨#[61]⟩]) w := by
  have h : Tryz.prog.underlying 58 = some (.array 5 57) := by kernel_rfl
  simp [Instr.index, run_underlying h, asIntOf, go_sem]
attribute [local go_sem] span_Print.idx0 span_Print.idx1 span_Print.idx2 span_Print.idx3 span_Print.idx4
section
open Lib
set_option maxRecDepth 100000 in
set_option maxHeartbeats 8000000 in
theorem span_Print.calls (k : Nat) (A0_0 : Option Addr) (c0_0 : Nat) (l0_0 : List (List (S45))) (r1 : ByteArray) (r2 : Bool) (w : World) (hr0_0 : Kd.C (Kd.slice 45 k45) w A0_0 l0_0.length l0_0) (hc0_0 : l0_0.length ≤ c0_0) (h : span_Print.f k l0_0 = some (r1, r2)) (hLD : LD w) :
    Calls Tryz.prog 14 #[.agg #[.slice A0_0 l0_0.length c0_0]] w fun e w' => e = .returned (.tuple #[.string r1, .bool r2]) ∧ Below w.heap.size w w' := by
  unfold span_Print.f at h
  obtain ⟨g, hg, h⟩ := Option.bind_eq_some_iff.1 h
  have hu1 := Tryz.underlying24
  have hu2 := Tryz.underlying35
  have hu3 := Tryz.underlying45
  have HK : Hid (∀ W, Below (w.alloc (.cells #[.slice A0_0 l0_0.length c0_0] 24)).heap.size (w.alloc (.cells #[.slice A0_0 l0_0.length c0_0] 24)) W →
      W.cell? ⟨w.heap.size, 0, none⟩ = some (.slice A0_0 l0_0.length c0_0) ∧ Below w.heap.size w W ∧ LD W) := Lib.hid (fun W hb => by
    obtain ⟨h1, h3⟩ := span_Print.keep hb
    exact ⟨span_Holds.cells h1 0 _ rfl, h3, hLD.below h3⟩)
  have CR : Hid (∀ W, Below w.heap.size w W → LD W → Calls Tryz.prog 26 #[.agg #[.slice A0_0 l0_0.length c0_0]] W fun e w' => e = .returned (.bool g) ∧ Below W.heap.size W w') := Lib.hid (fun W hb hl => span_right.calls k A0_0 c0_0 l0_0 g W (Kd.C_below hr0_0 hb) hc0_0 hg hl)
  have HR := Lib.hid hr0_0
  have HC := Lib.hid hc0_0
  have HG := Lib.hid h
  obtain ⟨p0, hB0, hL0⟩ := HK.out _ (Below.refl _ _)
  clear hr0_0 hc0_0 hg h
  cases g with
  | false =>
    have HG2 : (⟨#[]⟩, false) = (r1, r2) := by simpa using HG.out
    obtain ⟨rfl, rfl⟩ := Prod.mk.inj HG2
    go_enter Tryz.func14, Tryz.ntmps14
    go_wp2_with (first | (go_at_call 26; refine (CR.out _ hB0 hL0).mono ?_; rintro e w4 ⟨rfl, hb4⟩))
    go_ret2
    exact ⟨rfl, hB0.trans (hb4.mono hB0.size)⟩
  | true =>
    have HG2 : Hid ((span_Print.go k l0_0 []).bind span_Print.fin = some (r1, r2)) := Lib.hid (by simpa using HG.out)
    clear HG
    go_enter Tryz.func14, Tryz.ntmps14
    go_wp2_with (first | (go_at_call 26; refine (CR.out _ hB0 hL0).mono ?_; rintro e w4 ⟨rfl, hb4⟩; have HB4 := Lib.hid hb4; clear p0 hB0 hL0 hb4; obtain ⟨p0, hB4, hL4⟩ := HK.out _ HB4.out))
    go_loopg [4, 20] l0_0.length (fun kq v4 v20 W => ∃ (i : Nat) (all : List ByteArray), v20 = .int .i64 (i : Nat) ∧ Hid (kq = l0_0.length - i ∧ i ≤ l0_0.length) ∧ Hid ((span_Print.go k (l0_0.drop i) all).bind span_Print.fin = some (r1, r2)) ∧
      Hid (Below (w.alloc (.cells #[.slice A0_0 l0_0.length c0_0] 24)).heap.size (w.alloc (.cells #[.slice A0_0 l0_0.length c0_0] 24)) W) ∧ Hid (Kd.R Kd.string 9 W (w.alloc (.cells #[.slice A0_0 l0_0.length c0_0] 24)).heap.size (fun _ => True) v4 all))
    case atStart => exact ⟨0, [], rfl, Lib.hid ⟨rfl, Nat.zero_le _⟩, Lib.hid HG2.out, HB4, Lib.hid (Kd.R_nil _ _ _ _ _)⟩
    case round =>
      clear p0 hB4 hL4 HB4
      obtain ⟨i, all, rfl, Hi, Hg, HBW, HA⟩ := hrel
      obtain ⟨p0, hBW, hLW⟩ := HK.out _ HBW.out
      have hi := Hi.out.2
      have hm : l0_0.length ≤ 9223372036854775807 := HR.out.2.1
      by_cases hlt : i < l0_0.length
      · obtain ⟨x, hx⟩ : ∃ x, l0_0[i]? = some x := ⟨_, List.getElem?_eq_getElem hlt⟩
        obtain ⟨rb, ro, A1, c1, hA, hcell0, hc1, hC1⟩ := span_Holds.at_row HR.out i x hx
        have hcell := pw_cell_below hBW hcell0
        clear hcell0
        have hd : l0_0.drop i = x :: l0_0.drop (i + 1) := by rw [List.drop_eq_getElem_cons hlt, (List.getElem?_eq_some_iff.1 hx).2]
        have hg := Hg.out
        rw [hd, span_Print.top_cons] at hg
        have HGi := Lib.hid hg
        have HC1 := Lib.hid hC1
        have hm1 : x.length ≤ 9223372036854775807 := hC1.2.1
        subst hA
        clear hg hd hC1 hx Hg
        go_wp2
        go_loopg [7, 26] x.length (fun kq v7 v26 W => ∃ (j : Nat) (ws : List ByteArray), v26 = .int .i64 (j : Nat) ∧ Hid (kq = x.length - j ∧ j ≤ x.length) ∧ Hid (span_Print.mid k (x.drop j) (l0_0.drop (i + 1)) all ws = some (r1, r2)) ∧
          Hid (Below (w.alloc (.cells #[.slice (some ⟨rb, ro, none⟩) l0_0.length c0_0] 24)).heap.size (w.alloc (.cells #[.slice (some ⟨rb, ro, none⟩) l0_0.length c0_0] 24)) W) ∧ Hid (Kd.R Kd.string 9 W (w.alloc (.cells #[.slice (some ⟨rb, ro, none⟩) l0_0.length c0_0] 24)).heap.size (fun k_ => some k_ ≠ v7.ownBlock) u4 all) ∧ Hid (Kd.R Kd.string 9 W (w.alloc (.cells #[.slice (some ⟨rb, ro, none⟩) l0_0.length c0_0] 24)).heap.size (fun k_ => some k_ ≠ u4.ownBlock) v7 ws))
        case atStart => exact ⟨0, [], rfl, Lib.hid ⟨rfl, Nat.zero_le _⟩, Lib.hid HGi.out, HBW, Lib.hid (Kd.R_mono HA.out (fun _ _ => by simp [Value.ownBlock])), Lib.hid (Kd.R_nil _ _ _ _ _)⟩
        case round =>
          clear p0 hBW hLW hcell HBW HA
          rename World => V
          obtain ⟨j, ws, rfl, Hj, Hgj, HBV, HA, HW⟩ := hrel
          obtain ⟨p0, hBV, hLV⟩ := HK.out _ HBV.out
          have hj := Hj.out.2
          by_cases hjlt : j < x.length
          · obtain ⟨b, hbx⟩ : ∃ b, x[j]? = some b := ⟨_, List.getElem?_eq_getElem hjlt⟩
            obtain ⟨eb, eo, hA1, e0, e1, e2, e3, e4⟩ := span_Holds.at_bound (Kd.C_below HC1.out hBV) j b hbx
            have hdj : x.drop j = b :: x.drop (j + 1) := by rw [List.drop_eq_getElem_cons hjlt, (List.getElem?_eq_some_iff.1 hbx).2]
            have hgj := Hgj.out
            rw [hdj, span_Print.mid_cons] at hgj
            obtain ⟨⟨s, os⟩, hs, hgk⟩ := Option.bind_eq_some_iff.1 hgj
            clear hgj Hgj
            obtain ⟨⟨b0, ⟨b1, b2, b3, b4⟩⟩, hbe⟩ : ∃ y, b = y := ⟨_, rfl⟩
            subst hbe
            simp only at e0 e1 e2 e3 e4 hs hgk
            have CP := Lib.hid (fun W hW => version_Print.calls k b1 b2 b3 b4 s os W hs hW)
            have HBA := Lib.hid (HBV.out.alloc HBV.out.size (Obj.cells #[.int .i64 b0, .int .i64 b1, .int .i64 b2, .int .i64 b3, .string b4] 45))
            subst hA1
            obtain ⟨_, hBA, hLA⟩ := HK.out _ HBA.out
            have Hgo := Lib.hid hgk
            clear hgk hs hdj hbx
            go_wp2_with (first | (go_at_call 21; refine (CP.out _ hLA).mono ?_; rintro e w7 ⟨rfl, hb7⟩; have HB7 := Lib.hid (HBA.out.trans (hb7.mono HBA.out.size)); have hk7 := (hb7.block _ (by simp)).trans (World.alloc_heap_new V _); have Hk7 := Lib.hid hk7; have hs7 := hb7.size; obtain ⟨_, hB7, hL7⟩ := HK.out _ HB7.out; have n0 := span_Holds.cells hk7 0 _ rfl; have n1 := span_Holds.cells hk7 1 _ rfl; have n2 := span_Holds.cells hk7 2 _ rfl; have n3 := span_Holds.cells hk7 3 _ rfl; have n4 := span_Holds.cells hk7 4 _ rfl; clear hk7; obtain ⟨g0, g1, g2, g3, g4, g5, g6, g7, g8, g9⟩ := span_Print.sig hL7; have HA7 := Lib.hid (Kd.R_below (Kd.R_alloc HA.out (Obj.cells #[.int .i64 b0, .int .i64 b1, .int .i64 b2, .int .i64 b3, .string b4] 45)) hb7); have HW7 := Lib.hid (Kd.R_below (Kd.R_alloc HW.out (Obj.cells #[.int .i64 b0, .int .i64 b1, .int .i64 b2, .int .i64 b3, .string b4] 45)) hb7)))
            go_loopg [7, 37] 5 (fun kq v7 v37 W => ∃ (n : Nat) (ws : List ByteArray), v37 = .int .i64 (n : Nat) ∧ Hid (kq = 5 - n ∧ n ≤ 5) ∧ Hid (((span_Print.sg b0 s (span_Print.signs.drop n) ws).bind (span_Print.mid k (x.drop (j + 1)) (l0_0.drop (i + 1)) all)) = some (r1, r2)) ∧
              Hid (Below (w.alloc (.cells #[.slice (some ⟨rb, ro, none⟩) l0_0.length c0_0] 24)).heap.size (w.alloc (.cells #[.slice (some ⟨rb, ro, none⟩) l0_0.length c0_0] 24)) W) ∧ Hid (W.heap[V.heap.size]? = some (.cells #[.int .i64 b0, .int .i64 b1, .int .i64 b2, .int .i64 b3, .string b4] 45 (0, 0))) ∧ Hid (Kd.R Kd.string 9 W (w.alloc (.cells #[.slice (some ⟨rb, ro, none⟩) l0_0.length c0_0] 24)).heap.size (fun k_ => some k_ ≠ v7.ownBlock) u4 all) ∧ Hid (Kd.R Kd.string 9 W (w.alloc (.cells #[.slice (some ⟨rb, ro, none⟩) l0_0.length c0_0] 24)).heap.size (fun k_ => some k_ ≠ u4.ownBlock ∧ k_ ≠ V.heap.size) v7 ws))
            case atStart => exact ⟨0, ws, rfl, Lib.hid ⟨rfl, Nat.zero_le _⟩, Lib.hid Hgo.out, HB7, Hk7, HA7, Lib.hid (Kd.R_below (Kd.R_alloc (Kd.R_mono (Kd.R_bound HW.out) (fun _ hk => ⟨hk.1, by have := hk.2.2.1; omega⟩)) _) hb7)⟩
            case round =>
              clear n0 n1 n2 n3 n4 g0 g1 g2 g3 g4 g5 g6 g7 g8 g9 e0 e1 e2 e3 e4 hB7 hL7 hBA hLA hBV hLV
              obtain ⟨n, wn, hv37, Hn, Hgn, HBU, HK9, HA9, HW9⟩ := hrel
              obtain ⟨p0', hBU, hLU⟩ := HK.out _ HBU.out
              have m0 := span_Holds.cells HK9.out 0 _ rfl
              have hlt9 : V.heap.size < wr.heap.size := (Array.getElem?_eq_some_iff.1 HK9.out).1
              by_cases hn : n < 5
              · obtain rfl | rfl | rfl | rfl | rfl : n = 0 ∨ n = 1 ∨ n = 2 ∨ n = 3 ∨ n = 4 := by omega
                · obtain rfl : u37 = .int .i64 0 := hv37
                  have hg : (if (3 : Int) = b0 then (if (⟨#[60, 61]⟩ : ByteArray).size + s.size ≤ 9223372036854775807 then (if wn.length < 8796093022208 then span_Print.sg b0 s (span_Print.signs.drop (0 + 1)) (wn ++ [⟨#[60, 61]⟩ ++ s]) else none) else none) else span_Print.sg b0 s (span_Print.signs.drop (0 + 1)) wn).bind (span_Print.mid k (x.drop (j + 1)) (l0_0.drop (i + 1)) all) = some (r1, r2) := Hgn.out
                  by_cases ho : (3 : Int) = b0
                  · rw [if_pos ho] at hg
                    by_cases c1 : (⟨#[60, 61]⟩ : ByteArray).size + s.size ≤ 9223372036854775807
                    · rw [if_pos c1] at hg
                      by_cases c2 : wn.length < 8796093022208
                      · rw [if_pos c2] at hg
                        have hob : ((3 : Int) == b0) = true := beq_iff_eq.mpr ho
                        have LMc := Lib.hid c2
                        have Hgo' := Lib.hid hg
                        clear hg ho c2
                        go_wp2_with (first | ((with_reducible refine gate_builtin (b := .append) (xs := #[.tmp 45, .tmp 50]) rfl ?_); at_builtin; refine Kd.R_append Kd.string (w0 := w.alloc (.cells #[.slice (some ⟨rb, ro, none⟩) l0_0.length c0_0] 24)) (w.alloc (.cells #[.slice (some ⟨rb, ro, none⟩) l0_0.length c0_0] 24)).heap.size ?a1 (.tmp 45) (.tmp 50) 53 9 (.string ⟨#[]⟩) 16 ?a2 ?a3 ?a4 ?a5 ?a6 ?a7 u7 wn (⟨#[60, 61]⟩ ++ s) [.string (⟨#[60, 61]⟩ ++ s)] (fun k_ => some k_ ≠ u4.ownBlock ∧ k_ ≠ V.heap.size) (fun _ => False) ?aY ?aX ?aP ?aK ?aF ?aO ?aB ?aS ?aL ?_; (case a1 => rfl); (case a2 => rfl); (case a3 => exact Tryz.underlying53); (case a4 => exact info9); (case a5 => rfl); (case a6 => decide); (case a7 => decide); (case aK => exact fun _ hk => hk.elim); (case aY => rfl); (case aX => first | rfl | (rw [World.size_alloc]; rfl)); (case aP => exact rfl); (case aB => exact HBU.out.alloc HBU.out.size _); (case aF => exact (fun k_ hk => ⟨Kd.fresh' (Kd.R_lt (Kd.R_alloc HA9.out _)) k_ hk, by have := hk; rw [World.size_alloc] at this; omega⟩)); (case aO => exact Kd.R_alloc HW9.out _); (case aS => exact (HBU.out.alloc HBU.out.size _).size); (case aL => have := LMc.out; omega); intro v1 w1 ho hb hg hat; have HB1 := Lib.hid hb; have HW1 := Lib.hid ho; have HA1 := Lib.hid (Kd.R_mono (Kd.R_after (ok := (fun _ => True)) (Kd.R_mono (Kd.R_alloc HA9.out _) (fun _ hk => ⟨trivial, hk⟩)) hg hat) (fun _ hk => hk.2)); have e1 := Kd.R_away (g := V.heap.size) HW9.out (fun _ hk => hk.2); have e2 := hg.block V.heap.size (by rw [World.size_alloc]; exact Nat.lt_succ_of_lt hlt9) e1; have e3 := fun o => Below.heap_alloc wr o V.heap.size hlt9; have HK1 := Lib.hid ((e2.trans (e3 _)).trans HK9.out); clear e1 e2 e3; clear ho hb hg hat))
                        go_roundg (5 - (0 + 1))
                        case measure => have := Hn.out.1; omega
                        case rel => exact ⟨0 + 1, _, rfl, Lib.hid ⟨rfl, by omega⟩, Hgo', HB1, HK1, HA1, HW1⟩
                      · rw [if_neg c2] at hg; cases hg
                    · rw [if_neg c1] at hg; cases hg
                  · rw [if_neg ho] at hg
                    have hob : ((3 : Int) == b0) = false := beq_eq_false_iff_ne.mpr ho
                    have Hgo' := Lib.hid hg
                    clear hg ho
                    go_wp2
                    go_roundg (5 - (0 + 1))
                    case measure => have := Hn.out.1; omega
                    case rel => exact ⟨0 + 1, wn, rfl, Lib.hid ⟨rfl, by omega⟩, Hgo', Lib.hid (HBU.out.alloc HBU.out.size _), Lib.hid ((Below.heap_alloc _ _ _ hlt9).trans HK9.out), Lib.hid (Kd.R_alloc HA9.out _), Lib.hid (Kd.R_alloc HW9.out _)⟩
                · obtain rfl : u37 = .int .i64 1 := hv37
                  have hg : (if (5 : Int) = b0 then (if (⟨#[62, 61]⟩ : ByteArray).size + s.size ≤ 9223372036854775807 then (if wn.length < 8796093022208 then span_Print.sg b0 s (span_Print.signs.drop (1 + 1)) (wn ++ [⟨#[62, 61]⟩ ++ s]) else none) else none) else span_Print.sg b0 s (span_Print.signs.drop (1 + 1)) wn).bind (span_Print.mid k (x.drop (j + 1)) (l0_0.drop (i + 1)) all) = some (r1, r2) := Hgn.out
                  by_cases ho : (5 : Int) = b0
                  · rw [if_pos ho] at hg
                    by_cases c1 : (⟨#[62, 61]⟩ : ByteArray).size + s.size ≤ 9223372036854775807
                    · rw [if_pos c1] at hg
                      by_cases c2 : wn.length < 8796093022208
                      · rw [if_pos c2] at hg
                        have hob : ((5 : Int) == b0) = true := beq_iff_eq.mpr ho
                        have LMc := Lib.hid c2
                        have Hgo' := Lib.hid hg
                        clear hg ho c2
                        go_wp2_with (first | ((with_reducible refine gate_builtin (b := .append) (xs := #[.tmp 45, .tmp 50]) rfl ?_); at_builtin; refine Kd.R_append Kd.string (w0 := w.alloc (.cells #[.slice (some ⟨rb, ro, none⟩) l0_0.length c0_0] 24)) (w.alloc (.cells #[.slice (some ⟨rb, ro, none⟩) l0_0.length c0_0] 24)).heap.size ?a1 (.tmp 45) (.tmp 50) 53 9 (.string ⟨#[]⟩) 16 ?a2 ?a3 ?a4 ?a5 ?a6 ?a7 u7 wn (⟨#[62, 61]⟩ ++ s) [.string (⟨#[62, 61]⟩ ++ s)] (fun k_ => some k_ ≠ u4.ownBlock ∧ k_ ≠ V.heap.size) (fun _ => False) ?aY ?aX ?aP ?aK ?aF ?aO ?aB ?aS ?aL ?_; (case a1 => rfl); (case a2 => rfl); (case a3 => exact Tryz.underlying53); (case a4 => exact info9); (case a5 => rfl); (case a6 => decide); (case a7 => decide); (case aK => exact fun _ hk => hk.elim); (case aY => rfl); (case aX => first | rfl | (rw [World.size_alloc]; rfl)); (case aP => exact rfl); (case aB => exact HBU.out.alloc HBU.out.size _); (case aF => exact (fun k_ hk => ⟨Kd.fresh' (Kd.R_lt (Kd.R_alloc HA9.out _)) k_ hk, by have := hk; rw [World.size_alloc] at this; omega⟩)); (case aO => exact Kd.R_alloc HW9.out _); (case aS => exact (HBU.out.alloc HBU.out.size _).size); (case aL => have := LMc.out; omega); intro v1 w1 ho hb hg hat; have HB1 := Lib.hid hb; have HW1 := Lib.hid ho; have HA1 := Lib.hid (Kd.R_mono (Kd.R_after (ok := (fun _ => True)) (Kd.R_mono (Kd.R_alloc HA9.out _) (fun _ hk => ⟨trivial, hk⟩)) hg hat) (fun _ hk => hk.2)); have e1 := Kd.R_away (g := V.heap.size) HW9.out (fun _ hk => hk.2); have e2 := hg.block V.heap.size (by rw [World.size_alloc]; exact Nat.lt_succ_of_lt hlt9) e1; have e3 := fun o => Below.heap_alloc wr o V.heap.size hlt9; have HK1 := Lib.hid ((e2.trans (e3 _)).trans HK9.out); clear e1 e2 e3; clear ho hb hg hat))
                        go_roundg (5 - (1 + 1))
                        case measure => have := Hn.out.1; omega
                        case rel => exact ⟨1 + 1, _, rfl, Lib.hid ⟨rfl, by omega⟩, Hgo', HB1, HK1, HA1, HW1⟩
                      · rw [if_neg c2] at hg; cases hg
                    · rw [if_neg c1] at hg; cases hg
                  · rw [if_neg ho] at hg
                    have hob : ((5 : Int) == b0) = false := beq_eq_false_iff_ne.mpr ho
                    have Hgo' := Lib.hid hg
                    clear hg ho
                    go_wp2
                    go_roundg (5 - (1 + 1))
                    case measure => have := Hn.out.1; omega
                    case rel => exact ⟨1 + 1, wn, rfl, Lib.hid ⟨rfl, by omega⟩, Hgo', Lib.hid (HBU.out.alloc HBU.out.size _), Lib.hid ((Below.heap_alloc _ _ _ hlt9).trans HK9.out), Lib.hid (Kd.R_alloc HA9.out _), Lib.hid (Kd.R_alloc HW9.out _)⟩
                · obtain rfl : u37 = .int .i64 2 := hv37
                  have hg : (if (2 : Int) = b0 then (if (⟨#[60]⟩ : ByteArray).size + s.size ≤ 9223372036854775807 then (if wn.length < 8796093022208 then span_Print.sg b0 s (span_Print.signs.drop (2 + 1)) (wn ++ [⟨#[60]⟩ ++ s]) else none) else none) else span_Print.sg b0 s (span_Print.signs.drop (2 + 1)) wn).bind (span_Print.mid k (x.drop (j + 1)) (l0_0.drop (i + 1)) all) = some (r1, r2) := Hgn.out
                  by_cases ho : (2 : Int) = b0
                  · rw [if_pos ho] at hg
                    by_cases c1 : (⟨#[60]⟩ : ByteArray).size + s.size ≤ 9223372036854775807
                    · rw [if_pos c1] at hg
                      by_cases c2 : wn.length < 8796093022208
                      · rw [if_pos c2] at hg
                        have hob : ((2 : Int) == b0) = true := beq_iff_eq.mpr ho
                        have LMc := Lib.hid c2
                        have Hgo' := Lib.hid hg
                        clear hg ho c2
                        go_wp2_with (first | ((with_reducible refine gate_builtin (b := .append) (xs := #[.tmp 45, .tmp 50]) rfl ?_); at_builtin; refine Kd.R_append Kd.string (w0 := w.alloc (.cells #[.slice (some ⟨rb, ro, none⟩) l0_0.length c0_0] 24)) (w.alloc (.cells #[.slice (some ⟨rb, ro, none⟩) l0_0.length c0_0] 24)).heap.size ?a1 (.tmp 45) (.tmp 50) 53 9 (.string ⟨#[]⟩) 16 ?a2 ?a3 ?a4 ?a5 ?a6 ?a7 u7 wn (⟨#[60]⟩ ++ s) [.string (⟨#[60]⟩ ++ s)] (fun k_ => some k_ ≠ u4.ownBlock ∧ k_ ≠ V.heap.size) (fun _ => False) ?aY ?aX ?aP ?aK ?aF ?aO ?aB ?aS ?aL ?_; (case a1 => rfl); (case a2 => rfl); (case a3 => exact Tryz.underlying53); (case a4 => exact info9); (case a5 => rfl); (case a6 => decide); (case a7 => decide); (case aK => exact fun _ hk => hk.elim); (case aY => rfl); (case aX => first | rfl | (rw [World.size_alloc]; rfl)); (case aP => exact rfl); (case aB => exact HBU.out.alloc HBU.out.size _); (case aF => exact (fun k_ hk => ⟨Kd.fresh' (Kd.R_lt (Kd.R_alloc HA9.out _)) k_ hk, by have := hk; rw [World.size_alloc] at this; omega⟩)); (case aO => exact Kd.R_alloc HW9.out _); (case aS => exact (HBU.out.alloc HBU.out.size _).size); (case aL => have := LMc.out; omega); intro v1 w1 ho hb hg hat; have HB1 := Lib.hid hb; have HW1 := Lib.hid ho; have HA1 := Lib.hid (Kd.R_mono (Kd.R_after (ok := (fun _ => True)) (Kd.R_mono (Kd.R_alloc HA9.out _) (fun _ hk => ⟨trivial, hk⟩)) hg hat) (fun _ hk => hk.2)); have e1 := Kd.R_away (g := V.heap.size) HW9.out (fun _ hk => hk.2); have e2 := hg.block V.heap.size (by rw [World.size_alloc]; exact Nat.lt_succ_of_lt hlt9) e1; have e3 := fun o => Below.heap_alloc wr o V.heap.size hlt9; have HK1 := Lib.hid ((e2.trans (e3 _)).trans HK9.out); clear e1 e2 e3; clear ho hb hg hat))
                        go_roundg (5 - (2 + 1))
                        case measure => have := Hn.out.1; omega
                        case rel => exact ⟨2 + 1, _, rfl, Lib.hid ⟨rfl, by omega⟩, Hgo', HB1, HK1, HA1, HW1⟩
                      · rw [if_neg c2] at hg; cases hg
                    · rw [if_neg c1] at hg; cases hg
                  · rw [if_neg ho] at hg
                    have hob : ((2 : Int) == b0) = false := beq_eq_false_iff_ne.mpr ho
                    have Hgo' := Lib.hid hg
                    clear hg ho
                    go_wp2
                    go_roundg (5 - (2 + 1))
                    case measure => have := Hn.out.1; omega
                    case rel => exact ⟨2 + 1, wn, rfl, Lib.hid ⟨rfl, by omega⟩, Hgo', Lib.hid (HBU.out.alloc HBU.out.size _), Lib.hid ((Below.heap_alloc _ _ _ hlt9).trans HK9.out), Lib.hid (Kd.R_alloc HA9.out _), Lib.hid (Kd.R_alloc HW9.out _)⟩
                · obtain rfl : u37 = .int .i64 3 := hv37
                  have hg : (if (4 : Int) = b0 then (if (⟨#[62]⟩ : ByteArray).size + s.size ≤ 9223372036854775807 then (if wn.length < 8796093022208 then span_Print.sg b0 s (span_Print.signs.drop (3 + 1)) (wn ++ [⟨#[62]⟩ ++ s]) else none) else none) else span_Print.sg b0 s (span_Print.signs.drop (3 + 1)) wn).bind (span_Print.mid k (x.drop (j + 1)) (l0_0.drop (i + 1)) all) = some (r1, r2) := Hgn.out
                  by_cases ho : (4 : Int) = b0
                  · rw [if_pos ho] at hg
                    by_cases c1 : (⟨#[62]⟩ : ByteArray).size + s.size ≤ 9223372036854775807
                    · rw [if_pos c1] at hg
                      by_cases c2 : wn.length < 8796093022208
                      · rw [if_pos c2] at hg
                        have hob : ((4 : Int) == b0) = true := beq_iff_eq.mpr ho
                        have LMc := Lib.hid c2
                        have Hgo' := Lib.hid hg
                        clear hg ho c2
                        go_wp2_with (first | ((with_reducible refine gate_builtin (b := .append) (xs := #[.tmp 45, .tmp 50]) rfl ?_); at_builtin; refine Kd.R_append Kd.string (w0 := w.alloc (.cells #[.slice (some ⟨rb, ro, none⟩) l0_0.length c0_0] 24)) (w.alloc (.cells #[.slice (some ⟨rb, ro, none⟩) l0_0.length c0_0] 24)).heap.size ?a1 (.tmp 45) (.tmp 50) 53 9 (.string ⟨#[]⟩) 16 ?a2 ?a3 ?a4 ?a5 ?a6 ?a7 u7 wn (⟨#[62]⟩ ++ s) [.string (⟨#[62]⟩ ++ s)] (fun k_ => some k_ ≠ u4.ownBlock ∧ k_ ≠ V.heap.size) (fun _ => False) ?aY ?aX ?aP ?aK ?aF ?aO ?aB ?aS ?aL ?_; (case a1 => rfl); (case a2 => rfl); (case a3 => exact Tryz.underlying53); (case a4 => exact info9); (case a5 => rfl); (case a6 => decide); (case a7 => decide); (case aK => exact fun _ hk => hk.elim); (case aY => rfl); (case aX => first | rfl | (rw [World.size_alloc]; rfl)); (case aP => exact rfl); (case aB => exact HBU.out.alloc HBU.out.size _); (case aF => exact (fun k_ hk => ⟨Kd.fresh' (Kd.R_lt (Kd.R_alloc HA9.out _)) k_ hk, by have := hk; rw [World.size_alloc] at this; omega⟩)); (case aO => exact Kd.R_alloc HW9.out _); (case aS => exact (HBU.out.alloc HBU.out.size _).size); (case aL => have := LMc.out; omega); intro v1 w1 ho hb hg hat; have HB1 := Lib.hid hb; have HW1 := Lib.hid ho; have HA1 := Lib.hid (Kd.R_mono (Kd.R_after (ok := (fun _ => True)) (Kd.R_mono (Kd.R_alloc HA9.out _) (fun _ hk => ⟨trivial, hk⟩)) hg hat) (fun _ hk => hk.2)); have e1 := Kd.R_away (g := V.heap.size) HW9.out (fun _ hk => hk.2); have e2 := hg.block V.heap.size (by rw [World.size_alloc]; exact Nat.lt_succ_of_lt hlt9) e1; have e3 := fun o => Below.heap_alloc wr o V.heap.size hlt9; have HK1 := Lib.hid ((e2.trans (e3 _)).trans HK9.out); clear e1 e2 e3; clear ho hb hg hat))
                        go_roundg (5 - (3 + 1))
                        case measure => have := Hn.out.1; omega
                        case rel => exact ⟨3 + 1, _, rfl, Lib.hid ⟨rfl, by omega⟩, Hgo', HB1, HK1, HA1, HW1⟩
                      · rw [if_neg c2] at hg; cases hg
                    · rw [if_neg c1] at hg; cases hg
                  · rw [if_neg ho] at hg
                    have hob : ((4 : Int) == b0) = false := beq_eq_false_iff_ne.mpr ho
                    have Hgo' := Lib.hid hg
                    clear hg ho
                    go_wp2
                    go_roundg (5 - (3 + 1))
                    case measure => have := Hn.out.1; omega
                    case rel => exact ⟨3 + 1, wn, rfl, Lib.hid ⟨rfl, by omega⟩, Hgo', Lib.hid (HBU.out.alloc HBU.out.size _), Lib.hid ((Below.heap_alloc _ _ _ hlt9).trans HK9.out), Lib.hid (Kd.R_alloc HA9.out _), Lib.hid (Kd.R_alloc HW9.out _)⟩
                · obtain rfl : u37 = .int .i64 4 := hv37
                  have hg : (if (1 : Int) = b0 then (if (⟨#[61]⟩ : ByteArray).size + s.size ≤ 9223372036854775807 then (if wn.length < 8796093022208 then span_Print.sg b0 s (span_Print.signs.drop (4 + 1)) (wn ++ [⟨#[61]⟩ ++ s]) else none) else none) else span_Print.sg b0 s (span_Print.signs.drop (4 + 1)) wn).bind (span_Print.mid k (x.drop (j + 1)) (l0_0.drop (i + 1)) all) = some (r1, r2) := Hgn.out
                  by_cases ho : (1 : Int) = b0
                  · rw [if_pos ho] at hg
                    by_cases c1 : (⟨#[61]⟩ : ByteArray).size + s.size ≤ 9223372036854775807
                    · rw [if_pos c1] at hg
                      by_cases c2 : wn.length < 8796093022208
                      · rw [if_pos c2] at hg
                        have hob : ((1 : Int) == b0) = true := beq_iff_eq.mpr ho
                        have LMc := Lib.hid c2
                        have Hgo' := Lib.hid hg
                        clear hg ho c2
                        go_wp2_with (first | ((with_reducible refine gate_builtin (b := .append) (xs := #[.tmp 45, .tmp 50]) rfl ?_); at_builtin; refine Kd.R_append Kd.string (w0 := w.alloc (.cells #[.slice (some ⟨rb, ro, none⟩) l0_0.length c0_0] 24)) (w.alloc (.cells #[.slice (some ⟨rb, ro, none⟩) l0_0.length c0_0] 24)).heap.size ?a1 (.tmp 45) (.tmp 50) 53 9 (.string ⟨#[]⟩) 16 ?a2 ?a3 ?a4 ?a5 ?a6 ?a7 u7 wn (⟨#[61]⟩ ++ s) [.string (⟨#[61]⟩ ++ s)] (fun k_ => some k_ ≠ u4.ownBlock ∧ k_ ≠ V.heap.size) (fun _ => False) ?aY ?aX ?aP ?aK ?aF ?aO ?aB ?aS ?aL ?_; (case a1 => rfl); (case a2 => rfl); (case a3 => exact Tryz.underlying53); (case a4 => exact info9); (case a5 => rfl); (case a6 => decide); (case a7 => decide); (case aK => exact fun _ hk => hk.elim); (case aY => rfl); (case aX => first | rfl | (rw [World.size_alloc]; rfl)); (case aP => exact rfl); (case aB => exact HBU.out.alloc HBU.out.size _); (case aF => exact (fun k_ hk => ⟨Kd.fresh' (Kd.R_lt (Kd.R_alloc HA9.out _)) k_ hk, by have := hk; rw [World.size_alloc] at this; omega⟩)); (case aO => exact Kd.R_alloc HW9.out _); (case aS => exact (HBU.out.alloc HBU.out.size _).size); (case aL => have := LMc.out; omega); intro v1 w1 ho hb hg hat; have HB1 := Lib.hid hb; have HW1 := Lib.hid ho; have HA1 := Lib.hid (Kd.R_mono (Kd.R_after (ok := (fun _ => True)) (Kd.R_mono (Kd.R_alloc HA9.out _) (fun _ hk => ⟨trivial, hk⟩)) hg hat) (fun _ hk => hk.2)); have e1 := Kd.R_away (g := V.heap.size) HW9.out (fun _ hk => hk.2); have e2 := hg.block V.heap.size (by rw [World.size_alloc]; exact Nat.lt_succ_of_lt hlt9) e1; have e3 := fun o => Below.heap_alloc wr o V.heap.size hlt9; have HK1 := Lib.hid ((e2.trans (e3 _)).trans HK9.out); clear e1 e2 e3; clear ho hb hg hat))
                        go_roundg (5 - (4 + 1))
                        case measure => have := Hn.out.1; omega
                        case rel => exact ⟨4 + 1, _, rfl, Lib.hid ⟨rfl, by omega⟩, Hgo', HB1, HK1, HA1, HW1⟩
                      · rw [if_neg c2] at hg; cases hg
                    · rw [if_neg c1] at hg; cases hg
                  · rw [if_neg ho] at hg
                    have hob : ((1 : Int) == b0) = false := beq_eq_false_iff_ne.mpr ho
                    have Hgo' := Lib.hid hg
                    clear hg ho
                    go_wp2
                    go_roundg (5 - (4 + 1))
                    case measure => have := Hn.out.1; omega
                    case rel => exact ⟨4 + 1, wn, rfl, Lib.hid ⟨rfl, by omega⟩, Hgo', Lib.hid (HBU.out.alloc HBU.out.size _), Lib.hid ((Below.heap_alloc _ _ _ hlt9).trans HK9.out), Lib.hid (Kd.R_alloc HA9.out _), Lib.hid (Kd.R_alloc HW9.out _)⟩
              · obtain rfl : n = 5 := by have := Hn.out.2; omega
                obtain rfl : u37 = .int .i64 5 := hv37
                have Hgo' : Hid (span_Print.mid k (x.drop (j + 1)) (l0_0.drop (i + 1)) all wn = some (r1, r2)) := Lib.hid Hgn.out
                go_wp2
                go_roundg (x.length - (j + 1))
                case measure => have := Hj.out.1; omega
                case rel => exact ⟨j + 1, wn, by go_num, Lib.hid ⟨rfl, by omega⟩, Hgo', HBU, HA9, Lib.hid (Kd.R_mono HW9.out (fun _ hk => hk.1))⟩
          · have hje : j = x.length := by omega
            have hg := Hgj.out
            rw [List.drop_of_length_le (by omega)] at hg
            have hg : span_Print.add k (l0_0.drop (i + 1)) all ws = some (r1, r2) := by simpa [span_Print.mid, span_Print.row] using hg
            unfold span_Print.add at hg
            obtain ⟨all', hg, hfin⟩ := Option.bind_eq_some_iff.1 hg
            obtain ⟨t, ht, hg⟩ := Option.bind_eq_some_iff.1 hg
            by_cases c2 : all.length < 8796093022208
            · rw [if_pos c2] at hg
              have LMc := Lib.hid c2
              have Hgo : Hid ((span_Print.go k (l0_0.drop (i + 1)) (all ++ [t])).bind span_Print.fin = some (r1, r2)) := Lib.hid (by rw [hg]; exact hfin)
              clear hg hfin c2 Hgj
              obtain ⟨Aw0, cw0, ew0⟩ := Kd.R_slice HW.out
              subst ew0
              by_cases h0 : ws.length = 0
              · rw [if_pos h0] at ht
                obtain rfl : ws = [] := List.length_eq_zero_iff.1 h0
                have HT : Hid (strings_Join.f ([] ++ [⟨#[42]⟩]) ⟨#[32]⟩ = some t) := Lib.hid ht
                have CJ : Hid (∀ W A c, Kd.C Kd.string W A 1 [(⟨#[42]⟩ : ByteArray)] → 1 ≤ c → Calls Tryz.prog 31 #[.slice A 1 c, .string ⟨#[32]⟩] W fun e w' => e = .returned (.string t) ∧ Below W.heap.size W w') := Lib.hid (fun W A c hC hc => strings_Join.calls A c [⟨#[42]⟩] ⟨#[32]⟩ t W hC hc HT.out)
                have HWz : Hid (Kd.R Kd.string 9 V (w.alloc (.cells #[.slice (some ⟨rb, ro, none⟩) l0_0.length c0_0] 24)).heap.size (fun k_ => some k_ ≠ u4.ownBlock) (.slice Aw0 0 cw0) []) := HW
                have HAz : Hid (Kd.R Kd.string 9 V (w.alloc (.cells #[.slice (some ⟨rb, ro, none⟩) l0_0.length c0_0] 24)).heap.size (fun k_ => some k_ ≠ (Value.slice Aw0 0 cw0).ownBlock) u4 all) := HA
                clear ht h0 HW HA
                go_wp2_with (first | ((with_reducible refine gate_builtin (b := .append) (xs := #[.tmp 57, .tmp 58]) rfl ?_); at_builtin; refine Kd.R_append Kd.string (w0 := w.alloc (.cells #[.slice (some ⟨rb, ro, none⟩) l0_0.length c0_0] 24)) (w.alloc (.cells #[.slice (some ⟨rb, ro, none⟩) l0_0.length c0_0] 24)).heap.size ?a1 (.tmp 57) (.tmp 58) 53 9 (.string ⟨#[]⟩) 16 ?a2 ?a3 ?a4 ?a5 ?a6 ?a7 (.slice Aw0 0 cw0) [] (⟨#[42]⟩ : ByteArray) [.string (⟨#[42]⟩ : ByteArray)] (fun k_ => some k_ ≠ u4.ownBlock) (fun _ => False) ?aY ?aX ?aP ?aK ?aF ?aO ?aB ?aS ?aL ?_; (case a1 => rfl); (case a2 => rfl); (case a3 => exact Tryz.underlying53); (case a4 => exact info9); (case a5 => rfl); (case a6 => decide); (case a7 => decide); (case aK => exact fun _ hk => hk.elim); (case aY => rfl); (case aX => first | rfl | (rw [World.size_alloc]; rfl)); (case aP => exact rfl); (case aB => exact HBV.out); (case aF => exact (fun k_ hk => Kd.fresh' (Kd.R_lt HAz.out) k_ hk)); (case aO => exact HWz.out); (case aS => exact HBV.out.size); (case aL => (simp only [List.length_nil]; omega)); intro v1 w1 ho hb hg hat; have HB1 := Lib.hid hb; have HW1 := Lib.hid ho; have HA1 := Lib.hid (Kd.R_mono (Kd.R_after (ok := (fun _ => True)) (Kd.R_mono HAz.out (fun _ hk => ⟨trivial, hk⟩)) hg hat) (fun _ hk => hk.2)); obtain ⟨Aw, cw, ew⟩ := Kd.R_slice HW1.out; subst ew; obtain ⟨_, hcw, hCw⟩ := Kd.R_reads' HW1.out; have HCw : Hid (Kd.C Kd.string w1 Aw 1 [(⟨#[42]⟩ : ByteArray)]) := Lib.hid hCw; have HCc : 1 ≤ cw := hcw; clear hCw hcw; obtain ⟨_, hB1, hL1⟩ := HK.out _ HB1.out; clear ho hb hg hat) | (go_at_call 31; refine (CJ.out _ Aw cw HCw.out HCc).mono ?_; rintro e w8 ⟨rfl, hb8⟩; have HB8 := Lib.hid (HB1.out.trans (hb8.mono HB1.out.size)); have HA8 := Lib.hid (Kd.R_mono (Kd.R_below HA1.out hb8) (fun _ _ => trivial))) | ((with_reducible refine gate_builtin (b := .append) (xs := #[.tmp 60, .tmp 63]) rfl ?_); at_builtin; refine Kd.R_append Kd.string (w0 := w.alloc (.cells #[.slice (some ⟨rb, ro, none⟩) l0_0.length c0_0] 24)) (w.alloc (.cells #[.slice (some ⟨rb, ro, none⟩) l0_0.length c0_0] 24)).heap.size ?a1 (.tmp 60) (.tmp 63) 53 9 (.string ⟨#[]⟩) 16 ?a2 ?a3 ?a4 ?a5 ?a6 ?a7 u4 all t [.string t] (fun _ => True) (fun _ => False) ?aY ?aX ?aP ?aK ?aF ?aO ?aB ?aS ?aL ?_; (case a1 => rfl); (case a2 => rfl); (case a3 => exact Tryz.underlying53); (case a4 => exact info9); (case a5 => rfl); (case a6 => decide); (case a7 => decide); (case aK => exact fun _ hk => hk.elim); (case aY => rfl); (case aX => first | rfl | (rw [World.size_alloc]; rfl)); (case aP => exact rfl); (case aB => exact HB8.out); (case aF => exact (fun _ _ => trivial)); (case aO => exact HA8.out); (case aS => exact HB8.out.size); (case aL => have := LMc.out; omega); intro v1 w1 ho hb hg hat; have HB1' := Lib.hid hb; have HW1' := Lib.hid ho; clear ho hb hg hat))
                go_roundg (l0_0.length - (i + 1))
                case rel => exact ⟨i + 1, all ++ [t], by go_num, Lib.hid ⟨rfl, by omega⟩, Hgo, HB1', HW1'⟩
                case measure => have := Hi.out.1; omega
              · rw [if_neg h0] at ht
                have HT := Lib.hid ht
                clear ht
                have z0 : ((ws.length : Int) == 0) = false := beq_eq_false_iff_ne.mpr (by omega)
                obtain ⟨_, hcw, hCw⟩ := Kd.R_reads' HW.out
                have HCw := Lib.hid hCw
                clear hCw
                go_wp2_with (first | (go_at_call 31; refine (strings_Join.calls Aw0 cw0 ws ⟨#[32]⟩ t _ HCw.out hcw HT.out).mono ?_; rintro e w8 ⟨rfl, hb8⟩; have HB8 := Lib.hid (HBV.out.trans (hb8.mono HBV.out.size)); have HA8 := Lib.hid (Kd.R_mono (Kd.R_below HA.out hb8) (fun _ _ => trivial))) | ((with_reducible refine gate_builtin (b := .append) (xs := #[.tmp 60, .tmp 63]) rfl ?_); at_builtin; refine Kd.R_append Kd.string (w0 := w.alloc (.cells #[.slice (some ⟨rb, ro, none⟩) l0_0.length c0_0] 24)) (w.alloc (.cells #[.slice (some ⟨rb, ro, none⟩) l0_0.length c0_0] 24)).heap.size ?a1 (.tmp 60) (.tmp 63) 53 9 (.string ⟨#[]⟩) 16 ?a2 ?a3 ?a4 ?a5 ?a6 ?a7 u4 all t [.string t] (fun _ => True) (fun _ => False) ?aY ?aX ?aP ?aK ?aF ?aO ?aB ?aS ?aL ?_; (case a1 => rfl); (case a2 => rfl); (case a3 => exact Tryz.underlying53); (case a4 => exact info9); (case a5 => rfl); (case a6 => decide); (case a7 => decide); (case aK => exact fun _ hk => hk.elim); (case aY => rfl); (case aX => first | rfl | (rw [World.size_alloc]; rfl)); (case aP => exact rfl); (case aB => exact HB8.out); (case aF => exact (fun _ _ => trivial)); (case aO => exact HA8.out); (case aS => exact HB8.out.size); (case aL => have := LMc.out; omega); intro v1 w1 ho hb hg hat; have HB1' := Lib.hid hb; have HW1' := Lib.hid ho; clear ho hb hg hat))
                go_roundg (l0_0.length - (i + 1))
                case rel => exact ⟨i + 1, all ++ [t], by go_num, Lib.hid ⟨rfl, by omega⟩, Hgo, HB1', HW1'⟩
                case measure => have := Hi.out.1; omega
            · rw [if_neg c2] at hg; cases hg
      · have hie : i = l0_0.length := by omega
        have hg := Hg.out
        rw [List.drop_of_length_le (by omega)] at hg
        obtain ⟨t, ht, hgt⟩ := Option.bind_eq_some_iff.1 (show span_Print.fin all = some (r1, r2) by simpa [span_Print.go] using hg)
        obtain ⟨rfl, rfl⟩ := Prod.mk.inj (Option.some.inj hgt)
        have HT := Lib.hid ht
        obtain ⟨Aa, ca, ea⟩ := Kd.R_slice HA.out
        subst ea
        obtain ⟨_, hca, hCa⟩ := Kd.R_reads' HA.out
        have HCa := Lib.hid hCa
        clear hCa ht hg hgt
        go_wp2_with (first | (go_at_call 31; refine (strings_Join.calls Aa ca all ⟨#[32, 124, 124, 32]⟩ t _ HCa.out hca HT.out).mono ?_; rintro e w8 ⟨rfl, hb8⟩))
        go_ret2
        exact ⟨rfl, hBW.trans (hb8.mono hBW.size)⟩
end
end Go.Proofs.YtijooffpjfhidaaGreatDoor.G
end
section
namespace Go.Proofs.YtijooffpjfhidaaGreatDoor.G
open Go.RowKit Go.Proofs.YtijooffpjfhidaaGreatDoorW.PrintWords Go.Proofs.YtijooffpjfhidaaGreatDoorW.PrintLast Go.Proofs.YtijooffpjfhidaaGreatDoorW.PrintMore
attribute [local go_sem] Go.Proofs.YtijooffpjfhidaaGreatDoor.Aid.gtr_string max2_int min2_int max_two min_two max_three min_three max_four min_four
set_option linter.unusedVariables false
set_option linter.unusedSimpArgs false
def stringslite_HasPrefix.f (a0 : ByteArray) (a1 : ByteArray) : Option (Bool) := if (a0.size : Int) ≥ (a1.size : Int) then (if 0 ≤ (a1.size : Int) then (if (a1.size : Int) ≤ (a0.size : Int) then (some ((a0.extract 0 ((a1.size : Int) : Int).toNat).toList == a1.toList)) else (none)) else (none)) else (some false)
set_option maxHeartbeats 8000000 in
set_option maxRecDepth 100000 in
theorem stringslite_HasPrefix.calls (a0 : ByteArray) (a1 : ByteArray) (r : Bool) (w : World) (h : stringslite_HasPrefix.f a0 a1 = some r) :
    Calls Tryz.prog 70 #[.string a0, .string a1] w fun e w' => e = .returned (.bool r) ∧ Drawn0 w w' := by
  have H : (if (a0.size : Int) ≥ (a1.size : Int) then (if 0 ≤ (a1.size : Int) then (if (a1.size : Int) ≤ (a0.size : Int) then (some ((a0.extract 0 ((a1.size : Int) : Int).toNat).toList == a1.toList)) else (none)) else (none)) else (some false)) = some r := h
  clear h
  by_cases c3 : (a0.size : Int) ≥ (a1.size : Int)
  · rw [if_pos c3] at H
    have c3b0 : decide ((a1.size : Int) ≤ (a0.size : Int)) = true := decide_eq_true c3
    have c3b1 : decide (a1.size ≤ a0.size) = true := decide_eq_true (Int.ofNat_le.mp c3)
    clear c3
    by_cases c4 : 0 ≤ (a1.size : Int)
    · rw [if_pos c4] at H
      have c4b0 := eq_true c4
      have c4b1 : decide (0 ≤ (a1.size : Int)) = true := decide_eq_true c4
      clear c4
      by_cases c5 : (a1.size : Int) ≤ (a0.size : Int)
      · rw [if_pos c5] at H
        have c5b0 := eq_true c5
        have c5b1 : decide ((a1.size : Int) ≤ (a0.size : Int)) = true := decide_eq_true c5
        clear c5
        obtain rfl := Option.some.inj H
        go_enter Tryz.func70, Tryz.ntmps70
        go_wp2
        go_ret
        exact ⟨by first | rfl | (simp; done) | (simp [*]; done) | exact Go.Proofs.YtijooffpjfhidaaGreatDoor.Aid.ret_ne _ | exact Go.Proofs.YtijooffpjfhidaaGreatDoor.Aid.ret_eq _, by repeat (first | exact Drawn0.refl _ | apply Drawn0.step)⟩
      · rw [if_neg c5] at H
        exact absurd H (by simp)
    · rw [if_neg c4] at H
      exact absurd H (by simp)
  · rw [if_neg c3] at H
    have c3b0 : decide ((a1.size : Int) ≤ (a0.size : Int)) = false := decide_eq_false c3
    have c3b1 : decide (a1.size ≤ a0.size) = false := decide_eq_false (fun h => c3 (Int.ofNat_le.mpr h))
    clear c3
    obtain rfl := Option.some.inj H
    go_enter Tryz.func70, Tryz.ntmps70
    go_wp2
    go_ret
    exact ⟨by first | rfl | (simp; done) | (simp [*]; done) | exact Go.Proofs.YtijooffpjfhidaaGreatDoor.Aid.ret_ne _ | exact Go.Proofs.YtijooffpjfhidaaGreatDoor.Aid.ret_eq _, by repeat (first | exact Drawn0.refl _ | apply Drawn0.step)⟩
end Go.Proofs.YtijooffpjfhidaaGreatDoor.G
end
section
namespace Go.Proofs.YtijooffpjfhidaaGreatDoor.G
open Go.RowKit Go.Proofs.YtijooffpjfhidaaGreatDoorW.PrintWords Go.Proofs.YtijooffpjfhidaaGreatDoorW.PrintLast Go.Proofs.YtijooffpjfhidaaGreatDoorW.PrintMore
attribute [local go_sem] Go.Proofs.YtijooffpjfhidaaGreatDoor.Aid.gtr_string max2_int min2_int max_two min_two max_three min_three max_four min_four
set_option linter.unusedVariables false
set_option linter.unusedSimpArgs false
def strings_HasPrefix.f (a0 : ByteArray) (a1 : ByteArray) : Option (Bool) := (stringslite_HasPrefix.f a0 a1).bind fun t188 => (some t188)
set_option maxHeartbeats 8000000 in
set_option maxRecDepth 100000 in
theorem strings_HasPrefix.calls (a0 : ByteArray) (a1 : ByteArray) (r : Bool) (w : World) (h : strings_HasPrefix.f a0 a1 = some r) :
    Calls Tryz.prog 42 #[.string a0, .string a1] w fun e w' => e = .returned (.bool r) ∧ Drawn0 w w' := by
  have H : ((stringslite_HasPrefix.f a0 a1).bind fun t188 => (some t188)) = some r := h
  clear h
  replace H := Option.bind_eq_some_iff.mp H
  obtain ⟨t188, A30, H⟩ := H
  replace H : (some t188) = some r := H
  have A3 := Aside0.mk A30
  clear A30
  obtain rfl := Option.some.inj H
  go_enter Tryz.func42, Tryz.ntmps42
  go_wp2_with (first | ((with_reducible refine gate_callee (f := 70) rfl ?_); refine goesL_ (some 7) rfl rfl Tryz.func70 (by kernel_rfl) rfl #[.string a0, .string a1] rfl (by (try simp only [List.map_toArray, List.map_cons, List.map_nil]); first | done | rfl | (simp only [List.length_drop, List.length_take]; rfl)) ?_; (with_reducible refine (stringslite_HasPrefix.calls a0 a1 t188 _ A3.out).mono ?_); rintro e w' ⟨rfl, ⟨nd, rfl⟩⟩; refine ⟨_, rfl, ?_⟩))
  go_ret
  exact ⟨by first | rfl | (simp; done) | (simp [*]; done) | exact Go.Proofs.YtijooffpjfhidaaGreatDoor.Aid.ret_ne _ | exact Go.Proofs.YtijooffpjfhidaaGreatDoor.Aid.ret_eq _, by repeat (first | exact Drawn0.refl _ | apply Drawn0.step)⟩
end Go.Proofs.YtijooffpjfhidaaGreatDoor.G
end
section
namespace Go.Proofs.YtijooffpjfhidaaGreatDoor.G
open Go.RowKit Go.Proofs.YtijooffpjfhidaaGreatDoorW.PrintWords Go.Proofs.YtijooffpjfhidaaGreatDoorW.PrintLast Go.Proofs.YtijooffpjfhidaaGreatDoorW.PrintMore
attribute [local go_sem] Go.Proofs.YtijooffpjfhidaaGreatDoor.Aid.gtr_string max2_int min2_int max_two min_two max_three min_three max_four min_four
set_option linter.unusedVariables false
set_option linter.unusedSimpArgs false
def stringslite_CutPrefix.f (a0 : ByteArray) (a1 : ByteArray) : Option (ByteArray × Bool) := (stringslite_HasPrefix.f a0 a1).bind fun t189 => (if t189 = true then (if 0 ≤ (a1.size : Int) then (if (a1.size : Int) ≤ (a0.size : Int) then (some (a0.extract ((a1.size : Int) : Int).toNat a0.size, true)) else (none)) else (none)) else (some (a0, false)))
set_option maxHeartbeats 8000000 in
set_option maxRecDepth 100000 in
theorem stringslite_CutPrefix.calls (a0 : ByteArray) (a1 : ByteArray) (r1 : ByteArray) (r2 : Bool) (w : World) (h : stringslite_CutPrefix.f a0 a1 = some (r1, r2)) :
    Calls Tryz.prog 71 #[.string a0, .string a1] w fun e w' => e = .returned (.tuple #[.string r1, .bool r2]) ∧ Drawn0 w w' := by
  have H : ((stringslite_HasPrefix.f a0 a1).bind fun t189 => (if t189 = true then (if 0 ≤ (a1.size : Int) then (if (a1.size : Int) ≤ (a0.size : Int) then (some (a0.extract ((a1.size : Int) : Int).toNat a0.size, true)) else (none)) else (none)) else (some (a0, false)))) = some (r1, r2) := h
  clear h
  replace H := Option.bind_eq_some_iff.mp H
  obtain ⟨t189, A30, H⟩ := H
  replace H : (if t189 = true then (if 0 ≤ (a1.size : Int) then (if (a1.size : Int) ≤ (a0.size : Int) then (some (a0.extract ((a1.size : Int) : Int).toNat a0.size, true)) else (none)) else (none)) else (some (a0, false))) = some (r1, r2) := H
  have A3 := Aside0.mk A30
  clear A30
  by_cases c4 : t189 = true
  · subst c4
    have H1 : (if 0 ≤ (a1.size : Int) then (if (a1.size : Int) ≤ (a0.size : Int) then (some (a0.extract ((a1.size : Int) : Int).toNat a0.size, true)) else (none)) else (none)) = some (r1, r2) := by rw [if_pos rfl] at H; exact H
    clear H
    have H := H1
    clear H1
    by_cases c5 : 0 ≤ (a1.size : Int)
    · rw [if_pos c5] at H
      have c5b0 := eq_true c5
      have c5b1 : decide (0 ≤ (a1.size : Int)) = true := decide_eq_true c5
      clear c5
      by_cases c6 : (a1.size : Int) ≤ (a0.size : Int)
      · rw [if_pos c6] at H
        have c6b0 := eq_true c6
        have c6b1 : decide ((a1.size : Int) ≤ (a0.size : Int)) = true := decide_eq_true c6
        clear c6
        simp only [Option.some.injEq, Prod.mk.injEq] at H
        obtain ⟨rfl, rfl⟩ := H
        go_enter Tryz.func71, Tryz.ntmps71
        go_wp2_with (first | ((with_reducible refine gate_callee (f := 70) rfl ?_); refine goesL_ (some 8) rfl rfl Tryz.func70 (by kernel_rfl) rfl #[.string a0, .string a1] rfl (by (try simp only [List.map_toArray, List.map_cons, List.map_nil]); first | done | rfl | (simp only [List.length_drop, List.length_take]; rfl)) ?_; (with_reducible refine (stringslite_HasPrefix.calls a0 a1 true _ A3.out).mono ?_); rintro e w' ⟨rfl, ⟨nd, rfl⟩⟩; refine ⟨_, rfl, ?_⟩))
        go_ret2
        exact ⟨by first | rfl | (simp; done) | (simp [*]; done) | exact Go.Proofs.YtijooffpjfhidaaGreatDoor.Aid.ret_ne _ | exact Go.Proofs.YtijooffpjfhidaaGreatDoor.Aid.ret_eq _, by repeat (first | exact Drawn0.refl _ | apply Drawn0.step)⟩
      · rw [if_neg c6] at H
        exact absurd H (by simp)
    · rw [if_neg c5] at H
      exact absurd H (by simp)
  · replace c4 := Bool.eq_false_iff.mpr c4
    subst c4
    have H1 : (some (a0, false)) = some (r1, r2) := by rw [if_neg (show ¬ (false = true) by decide)] at H; exact H
    clear H
    have H := H1
    clear H1
    simp only [Option.some.injEq, Prod.mk.injEq] at H
    obtain ⟨rfl, rfl⟩ := H
    go_enter Tryz.func71, Tryz.ntmps71
    go_wp2_with (first | ((with_reducible refine gate_callee (f := 70) rfl ?_); refine goesL_ (some 8) rfl rfl Tryz.func70 (by kernel_rfl) rfl #[.string a0, .string a1] rfl (by (try simp only [List.map_toArray, List.map_cons, List.map_nil]); first | done | rfl | (simp only [List.length_drop, List.length_take]; rfl)) ?_; (with_reducible refine (stringslite_HasPrefix.calls a0 a1 false _ A3.out).mono ?_); rintro e w' ⟨rfl, ⟨nd, rfl⟩⟩; refine ⟨_, rfl, ?_⟩))
    go_ret2
    exact ⟨by first | rfl | (simp; done) | (simp [*]; done) | exact Go.Proofs.YtijooffpjfhidaaGreatDoor.Aid.ret_ne _ | exact Go.Proofs.YtijooffpjfhidaaGreatDoor.Aid.ret_eq _, by repeat (first | exact Drawn0.refl _ | apply Drawn0.step)⟩
end Go.Proofs.YtijooffpjfhidaaGreatDoor.G
end
section
namespace Go.Proofs.YtijooffpjfhidaaGreatDoor.G
open Go.RowKit Go.Proofs.YtijooffpjfhidaaGreatDoorW.PrintWords Go.Proofs.YtijooffpjfhidaaGreatDoorW.PrintLast Go.Proofs.YtijooffpjfhidaaGreatDoorW.PrintMore
attribute [local go_sem] Go.Proofs.YtijooffpjfhidaaGreatDoor.Aid.gtr_string max2_int min2_int max_two min_two max_three min_three max_four min_four
set_option linter.unusedVariables false
set_option linter.unusedSimpArgs false
def strings_CutPrefix.f (a0 : ByteArray) (a1 : ByteArray) : Option (ByteArray × Bool) := (stringslite_CutPrefix.f a0 a1).bind fun bt190 => (some (bt190.1, bt190.2))
set_option maxHeartbeats 8000000 in
set_option maxRecDepth 100000 in
theorem strings_CutPrefix.calls (a0 : ByteArray) (a1 : ByteArray) (r1 : ByteArray) (r2 : Bool) (w : World) (h : strings_CutPrefix.f a0 a1 = some (r1, r2)) :
    Calls Tryz.prog 43 #[.string a0, .string a1] w fun e w' => e = .returned (.tuple #[.string r1, .bool r2]) ∧ Drawn0 w w' := by
  have H : ((stringslite_CutPrefix.f a0 a1).bind fun bt190 => (some (bt190.1, bt190.2))) = some (r1, r2) := h
  clear h
  replace H := Option.bind_eq_some_iff.mp H
  obtain ⟨⟨t190, t191⟩, A30, H⟩ := H
  replace H : (some (t190, t191)) = some (r1, r2) := H
  have A3 := Aside0.mk A30
  clear A30
  simp only [Option.some.injEq, Prod.mk.injEq] at H
  obtain ⟨rfl, rfl⟩ := H
  go_enter Tryz.func43, Tryz.ntmps43
  go_wp2_with (first | ((with_reducible refine gate_callee (f := 71) rfl ?_); refine goesL_ (some 8) rfl rfl Tryz.func71 (by kernel_rfl) rfl #[.string a0, .string a1] rfl (by (try simp only [List.map_toArray, List.map_cons, List.map_nil]); first | done | rfl | (simp only [List.length_drop, List.length_take]; rfl)) ?_; (with_reducible refine (stringslite_CutPrefix.calls a0 a1 t190 t191 _ A3.out).mono ?_); rintro e w' ⟨rfl, ⟨nd, rfl⟩⟩; refine ⟨_, rfl, ?_⟩))
  go_ret2
  exact ⟨by first | rfl | (simp; done) | (simp [*]; done) | exact Go.Proofs.YtijooffpjfhidaaGreatDoor.Aid.ret_ne _ | exact Go.Proofs.YtijooffpjfhidaaGreatDoor.Aid.ret_eq _, by repeat (first | exact Drawn0.refl _ | apply Drawn0.step)⟩
end Go.Proofs.YtijooffpjfhidaaGreatDoor.G
end
section
namespace Go.Proofs.YtijooffpjfhidaaGreatDoor.G
open Go.RowKit Go.Proofs.YtijooffpjfhidaaGreatDoorW.PrintWords Go.Proofs.YtijooffpjfhidaaGreatDoorW.PrintLast Go.Proofs.YtijooffpjfhidaaGreatDoorW.PrintMore
attribute [local go_sem] Go.Proofs.YtijooffpjfhidaaGreatDoor.Aid.gtr_string max2_int min2_int max_two min_two max_three min_three max_four min_four
set_option linter.unusedVariables false
set_option linter.unusedSimpArgs false
def strings_Cut.f (a0 : ByteArray) (a1 : ByteArray) : Option (ByteArray × ByteArray × Bool) :=
  if a1.data.size = 1 then (if a0.size ≤ 9223372036854775807 then some (Cut.cutB a0 (a1.data.getD 0 0)) else none) else none
theorem strings_Cut.calls (a0 : ByteArray) (a1 : ByteArray) (r1 : ByteArray) (r2 : ByteArray) (r3 : Bool) (w : World) (h : strings_Cut.f a0 a1 = some (r1, r2, r3)) :
    Calls Tryz.prog 72 #[.string a0, .string a1] w fun e w' => e = .returned (.tuple #[.string r1, .string r2, .bool r3]) ∧ Drawn0 w w' := by
  unfold strings_Cut.f at h
  split at h
  · rename_i h1
    split at h
    · rename_i h2
      obtain ⟨⟨l⟩⟩ := a1
      match l, h1 with
      | [c], _ =>
        have h3 := Option.some.inj h
        refine (Cut.cut_calls a0 c w h2).mono ?_
        rintro e w' ⟨rfl, n, rfl⟩
        have h4 : Cut.cutB a0 c = (r1, r2, r3) := h3
        rw [h4]
        exact ⟨rfl, ⟨⟨n, rfl⟩⟩⟩
    · cases h
  · cases h
end Go.Proofs.YtijooffpjfhidaaGreatDoor.G
end
section
namespace Go.Proofs.YtijooffpjfhidaaGreatDoor.G
open Go.RowKit Go.Proofs.YtijooffpjfhidaaGreatDoorW.PrintWords Go.Proofs.YtijooffpjfhidaaGreatDoorW.PrintLast Go.Proofs.YtijooffpjfhidaaGreatDoorW.PrintMore
attribute [local go_sem] Go.Proofs.YtijooffpjfhidaaGreatDoor.Aid.gtr_string max2_int min2_int max_two min_two max_three min_three max_four min_four
set_option linter.unusedVariables false
set_option linter.unusedSimpArgs false
def version_Parse.go (k : Nat) (pre : ByteArray) : List ByteArray → Int → Int → Int → Nat → Option (Int × Int × Int × ByteArray × Bool)
  | [], n0, n1, n2, _ => (version_right.f k n0 n1 n2 pre).bind fun g => if g = true then some (n0, n1, n2, pre, true) else some (0, 0, 0, ⟨#[]⟩, false)
  | x :: xs, n0, n1, n2, i => (version_number.f x).bind fun n => if n.2.2 = false then some (0, 0, 0, ⟨#[]⟩, false) else
      version_Parse.go k pre xs (if i = 0 then n.1 else n0) (if i = 1 then n.1 else n1) (if i = 2 then n.1 else n2) (i + 1)
def version_Parse.f (k : Nat) (a0 : ByteArray) : Option (Int × Int × Int × ByteArray × Bool) :=
  (strings_Cut.f a0 ⟨#[45]⟩).bind fun c => (strings_Split.f k c.1 ⟨#[46]⟩).bind fun l =>
    if l.length = 3 then (if (c.2.2 && c.2.1.toList.isEmpty) = true then some (0, 0, 0, ⟨#[]⟩, false) else version_Parse.go k c.2.1 l 0 0 0 0) else some (0, 0, 0, ⟨#[]⟩, false)
theorem version_Parse.keep {w w' : World} {b : Nat} {o : Obj} (h : w.heap[b]? = some o) (hb : Below w.heap.size w w') : w'.heap[b]? = some o := (hb.block b (Array.getElem?_eq_some_iff.1 h).1).trans h
theorem version_Parse.cells {W : World} {b t : Nat} {v0 v1 v2 v3 : Value} (h : W.heap[b]? = some (.cells #[v0, v1, v2, v3] t (0, 0))) :
    W.cell? ⟨b, 0, none⟩ = some v0 ∧ W.cell? ⟨b, 1, none⟩ = some v1 ∧ W.cell? ⟨b, 2, none⟩ = some v2 ∧ W.cell? ⟨b, 3, none⟩ = some v3 ∧
    W.frozen? ⟨b, 0, none⟩ = false ∧ W.frozen? ⟨b, 1, none⟩ = false ∧ W.frozen? ⟨b, 2, none⟩ = false ∧ W.frozen? ⟨b, 3, none⟩ = false := by
  simp [World.cell?, World.frozen?, h]
theorem version_Parse.cells3 {W : World} {b t : Nat} {v0 v1 v2 : Value} (h : W.heap[b]? = some (.cells #[v0, v1, v2] t (0, 0))) :
    W.cell? ⟨b, 0, none⟩ = some v0 ∧ W.cell? ⟨b, 1, none⟩ = some v1 ∧ W.cell? ⟨b, 2, none⟩ = some v2 ∧
    W.frozen? ⟨b, 0, none⟩ = false ∧ W.frozen? ⟨b, 1, none⟩ = false ∧ W.frozen? ⟨b, 2, none⟩ = false := by
  simp [World.cell?, World.frozen?, h]
theorem version_Parse.at {W : World} {A : Option Addr} {l : List ByteArray} (h : Kd.C Kd.string W A l.length l) (j : Nat) (x : ByteArray) (hx : l[j]? = some x) : ∃ b o, A = some ⟨b, o, none⟩ ∧ W.cell? ⟨b, o + j, none⟩ = some (.string x) := by
  obtain ⟨_, _, hcell⟩ := h
  have hj := (List.getElem?_eq_some_iff.1 hx).1
  obtain ⟨⟨b, o, sp⟩, rfl, hc⟩ := hcell (by omega)
  have hcell : ∀ (j : Nat) x, l[j]? = some x → W.cell? ((⟨b, o, sp⟩ : Addr).add j) = some (.string x) := fun j x hx => by
    obtain ⟨c, _, hk, hu⟩ := hc j x hx
    have hk' : c = [Value.string x] := hk
    have := hu 0 (.string x) (by rw [hk']; rfl)
    rw [Nat.add_zero] at this
    rw [show Kd.string.sz = 1 from rfl, Nat.mul_one] at this
    exact this
  have h00 := hcell 0 _ (List.getElem?_eq_getElem (by omega))
  rw [show (⟨b, o, sp⟩ : Addr).add 0 = ⟨b, o, sp⟩ from by simp [Addr.add]] at h00
  have hsp : sp = none := by
    unfold World.cell? at h00
    split at h00
    · cases sp with
      | none => rfl
      | some z => simp at h00
    · cases h00
  subst hsp
  have := hcell j x hx
  exact ⟨b, o, rfl, by rwa [show (⟨b, o, none⟩ : Addr).add j = ⟨b, o + j, none⟩ from by unfold Addr.add; split <;> simp_all] at this⟩
section
open Lib
set_option maxRecDepth 100000 in
set_option maxHeartbeats 4000000 in
theorem version_Parse.calls (k : Nat) (a0 : ByteArray) (r1 : Int) (r2 : Int) (r3 : Int) (r4 : ByteArray) (r5 : Bool) (w : World) (h : version_Parse.f k a0 = some (r1, r2, r3, r4, r5)) (hLD : LD w) :
    Calls Tryz.prog 44 #[.string a0] w fun e w' => e = .returned (.tuple #[.agg #[.int .i64 r1, .int .i64 r2, .int .i64 r3, .string r4], .bool r5]) ∧ Below w.heap.size w w' := by
  unfold version_Parse.f at h
  obtain ⟨⟨c1, c2, c3⟩, hc, h⟩ := Option.bind_eq_some_iff.1 h
  obtain ⟨l, hl, h⟩ := Option.bind_eq_some_iff.1 h
  have hu := Tryz.underlying35
  have CC := Lib.hid (fun W => strings_Cut.calls a0 ⟨#[45]⟩ c1 c2 c3 W hc)
  have CS := Lib.hid (fun W => strings_Split.calls k c1 ⟨#[46]⟩ l W hl)
  obtain ⟨W0, hW0⟩ : ∃ W0, w.alloc (Obj.cells #[.int .i64 0, .int .i64 0, .int .i64 0, .string ⟨#[]⟩] 35) = W0 := ⟨_, rfl⟩
  have hs0 : W0.heap.size = w.heap.size + 1 := by rw [← hW0]; simp
  have hk0 : Hid (∀ n, (W0.drewN n).heap[w.heap.size]? = some (Obj.cells #[.int .i64 0, .int .i64 0, .int .i64 0, .string ⟨#[]⟩] 35)) := Lib.hid (fun n => by rw [← hW0]; exact World.alloc_heap_new w _)
  have hB0 : Hid (∀ n, Below w.heap.size w (W0.drewN n)) := Lib.hid (fun n => by rw [← hW0]; exact pw_below_drewN ((Below.refl _ w).alloc (Nat.le_refl _) _) n)
  clear hc hl
  by_cases hn3 : l.length = 3
  · rw [if_pos hn3] at h
    obtain ⟨t, ht⟩ : ∃ t, (c3 && c2.toList.isEmpty) = t := ⟨_, rfl⟩
    have h3 : (l.length : Int) = 3 := by omega
    have h3' : (((l.length : Int)) != 3) = false := by rw [h3]; rfl
    rw [ht] at h
    cases t with
    | true =>
      rw [Bool.and_eq_true] at ht
      obtain ⟨rfl, hce⟩ := ht
      obtain ⟨rfl, rfl, rfl, rfl, rfl⟩ : 0 = r1 ∧ 0 = r2 ∧ 0 = r3 ∧ (⟨#[]⟩ : ByteArray) = r4 ∧ false = r5 := by simpa using h
      clear h
      go_enter Tryz.func44, Tryz.ntmps44
      go_wp2_with (first | (go_at_call 72; (try rw [hW0]); refine (CC.out _).mono ?_; rintro e w' ⟨rfl, ⟨n, rfl⟩⟩) | (go_at_call 73; refine (CS.out _).mono ?_; rintro e w1 ⟨v, rfl, hr, hb⟩; obtain ⟨A, cp, rfl⟩ := Kd.R_slice hr; have hk := version_Parse.keep (hk0.out n) hb; obtain ⟨p0, p1, p2, p3, q0, q1, q2, q3⟩ := version_Parse.cells hk))
      have hB1 := (hB0.out n).trans (hb.mono (by simp [hs0]))
      refine bodyPost_ret (v := .tuple #[.agg #[.int .i64 0, .int .i64 0, .int .i64 0, .string ⟨#[]⟩], .bool false]) ?_ rfl ⟨rfl, ?_⟩
      · simp [results, Tryz.f44, go_sem, p0, p1, p2, p3]
      · repeat (first | exact hB1 | refine below_set ?_ (by omega))
    | false =>
      rw [if_neg (by decide)] at h
      have H := Lib.hid h
      have hcs : c3 = false ∨ c3 = true ∧ c2.toList.isEmpty = false := by
        cases c3
        · exact .inl rfl
        · exact .inr ⟨rfl, by simpa using ht⟩
      clear ht h
      rcases hcs with rfl | ⟨rfl, hce⟩
      all_goals
        go_enter Tryz.func44, Tryz.ntmps44
        go_wp2_with (first | (go_at_call 72; (try rw [hW0]); refine (CC.out _).mono ?_; rintro e w' ⟨rfl, ⟨n, rfl⟩⟩) | (go_at_call 73; refine (CS.out _).mono ?_; rintro e w1 ⟨v, rfl, hr, hb⟩; obtain ⟨A, cp, rfl⟩ := Kd.R_slice hr; have hk := version_Parse.keep (hk0.out n) hb))
        have hB1 := (hB0.out n).trans (hb.mono (by simp [hs0]))
        have hN1 : w.heap.size < w1.heap.size := by have := hb.size; simp [hs0] at this; omega
        obtain ⟨W2, hW2⟩ : ∃ W2, w1.alloc (Obj.cells #[.int .i64 0, .int .i64 0, .int .i64 0] 98) = W2 := ⟨_, rfl⟩
        have hz2 : W2.heap.size = w1.heap.size + 1 := by rw [← hW2]; simp
        have har2 : W2.heap[w1.heap.size]? = some (Obj.cells #[.int .i64 0, .int .i64 0, .int .i64 0] 98) := by rw [← hW2]; exact World.alloc_heap_new _ _
        have hC1 := Lib.hid (Kd.R_reads' hr).2.2
        have hB2 : Below w1.heap.size w1 W2 := by rw [← hW2]; exact (Below.refl _ w1).alloc (Nat.le_refl _) _
        have HK1 := Lib.hid hk
        clear hk
        (try rw [hW2])
        go_loopg [36] 3 (fun kq v36 W => ∃ (i : Nat) (n0 n1 n2 : Int), v36 = .int .i64 (i : Nat) ∧ Hid (kq = 3 - i ∧ i ≤ 3) ∧ Hid (version_Parse.go k c2 (l.drop i) n0 n1 n2 i = some (r1, r2, r3, r4, r5)) ∧
          Hid (W.heap[w1.heap.size]? = some (Obj.cells #[.int .i64 n0, .int .i64 n1, .int .i64 n2] 98)) ∧ Hid (Below w1.heap.size w1 W))
        case atStart => exact ⟨0, 0, 0, 0, rfl, Lib.hid ⟨rfl, by omega⟩, Lib.hid H.out, Lib.hid har2, Lib.hid hB2⟩
        case round =>
          obtain ⟨i, n0, n1, n2, rfl, Hk, Hg, Har, HBW⟩ := hrel
          have Hst := Lib.hid (version_Parse.keep HK1.out HBW.out)
          have HC := Lib.hid (Kd.C_below hC1.out HBW.out)
          have HB : Hid (Below w.heap.size w wr) := Lib.hid (hB1.trans (HBW.out.mono (by omega)))
          have hi := Hk.out.2
          by_cases hi3 : i = 3
          · subst hi3
            have hg := Hg.out
            rw [List.drop_of_length_le (by omega)] at hg
            simp only [version_Parse.go] at hg
            obtain ⟨g, hgr, hg2⟩ := Option.bind_eq_some_iff.1 hg
            have CR := Lib.hid (fun W h => version_right.calls k n0 n1 n2 c2 g W hgr h)
            obtain ⟨y0, y1, y2, z0, z1, z2⟩ := version_Parse.cells3 Har.out
            have HG2 := Lib.hid hg2
            have hlt := (Array.getElem?_eq_some_iff.1 Hst.out).1
            have HLD : Hid (∀ o, LD (wr.alloc o)) := Lib.hid (fun o => hLD.below (HB.out.alloc (by omega) o))
            have HKP : Hid (∀ o w3, Below (wr.alloc o).heap.size (wr.alloc o) w3 → w3.heap[w.heap.size]? = some (Obj.cells #[.int .i64 0, .int .i64 0, .int .i64 0, .string ⟨#[]⟩] 35) ∧ w3.heap[wr.heap.size]? = some o ∧ Below w.heap.size w w3) := Lib.hid (fun o w3 hb3 =>
              ⟨version_Parse.keep ((Below.heap_alloc wr o _ hlt).trans Hst.out) hb3, version_Parse.keep (World.alloc_heap_new wr o) hb3, (HB.out.alloc (by omega) o).trans (hb3.mono (by simp; omega))⟩)
            clear hg hg2 hgr
            cases g
            all_goals
              go_wp2_with (first | (go_at_call 39; refine (CR.out _ (HLD.out _)).mono ?_; rintro e w3 ⟨rfl, hb3⟩; obtain ⟨h1_, h2_, hB3⟩ := HKP.out _ _ hb3; obtain ⟨p0, p1, p2, p3, q0, q1, q2, q3⟩ := version_Parse.cells h1_; obtain ⟨s0, s1, s2, s3, _, _, _, _⟩ := version_Parse.cells h2_))
            · obtain ⟨rfl, rfl, rfl, rfl, rfl⟩ : 0 = r1 ∧ 0 = r2 ∧ 0 = r3 ∧ (⟨#[]⟩ : ByteArray) = r4 ∧ false = r5 := by simpa using HG2.out
              refine bodyPost_ret (v := .tuple #[.agg #[.int .i64 0, .int .i64 0, .int .i64 0, .string ⟨#[]⟩], .bool false]) ?_ rfl ⟨rfl, ?_⟩
              · simp [results, Tryz.f44, go_sem, p0, p1, p2, p3]
              · repeat (first | exact hB3 | refine below_set ?_ (by omega))
            · obtain ⟨rfl, rfl, rfl, rfl, rfl⟩ : n0 = r1 ∧ n1 = r2 ∧ n2 = r3 ∧ c2 = r4 ∧ true = r5 := by simpa using HG2.out
              refine bodyPost_ret (v := .tuple #[.agg #[.int .i64 n0, .int .i64 n1, .int .i64 n2, .string c2], .bool true]) ?_ rfl ⟨rfl, ?_⟩
              · simp [results, Tryz.f44, go_sem, p0, p1, p2, p3]
              · repeat (first | exact hB3 | refine below_set ?_ (by omega))
          · obtain ⟨x, hx⟩ : ∃ x, l[i]? = some x := ⟨_, List.getElem?_eq_getElem (by omega)⟩
            have hg := Hg.out
            rw [List.drop_eq_getElem_cons (List.getElem?_eq_some_iff.1 hx).1, (List.getElem?_eq_some_iff.1 hx).2] at hg
            simp only [version_Parse.go] at hg
            obtain ⟨⟨nn, pp, oo⟩, hnum, hg2⟩ := Option.bind_eq_some_iff.1 hg
            have CN := Lib.hid (fun W h => version_number.calls x nn pp oo W hnum h)
            have HLD : LD wr := hLD.below HB.out
            obtain ⟨ab, ao, hA, hcell⟩ := version_Parse.at HC.out i x hx
            have HN := Lib.hid hg2
            subst hA
            clear hg hg2 hnum
            have hi012 : i = 0 ∨ i = 1 ∨ i = 2 := by omega
            cases oo <;> rcases hi012 with rfl | rfl | rfl
            all_goals (try simp only [Nat.add_zero] at hcell)
            all_goals
              go_wp2_with (first | (go_at_call 74; refine (CN.out _ HLD).mono ?_; rintro e w2 ⟨rfl, hb2⟩; have hst2' := version_Parse.keep Hst.out hb2; have har2' := version_Parse.keep Har.out hb2; obtain ⟨y0, y1, y2, z0, z1, z2⟩ := version_Parse.cells3 har2'; obtain ⟨p0, p1, p2, p3, q0, q1, q2, q3⟩ := version_Parse.cells hst2'))
            · obtain ⟨rfl, rfl, rfl, rfl, rfl⟩ : 0 = r1 ∧ 0 = r2 ∧ 0 = r3 ∧ (⟨#[]⟩ : ByteArray) = r4 ∧ false = r5 := by simpa using HN.out
              have hBe := HB.out.trans (hb2.mono HB.out.size)
              refine bodyPost_ret (v := .tuple #[.agg #[.int .i64 0, .int .i64 0, .int .i64 0, .string ⟨#[]⟩], .bool false]) ?_ rfl ⟨rfl, ?_⟩
              · simp [results, Tryz.f44, go_sem, p0, p1, p2, p3]
              · repeat (first | exact hBe | refine below_set ?_ (by omega))
            · obtain ⟨rfl, rfl, rfl, rfl, rfl⟩ : 0 = r1 ∧ 0 = r2 ∧ 0 = r3 ∧ (⟨#[]⟩ : ByteArray) = r4 ∧ false = r5 := by simpa using HN.out
              have hBe := HB.out.trans (hb2.mono HB.out.size)
              refine bodyPost_ret (v := .tuple #[.agg #[.int .i64 0, .int .i64 0, .int .i64 0, .string ⟨#[]⟩], .bool false]) ?_ rfl ⟨rfl, ?_⟩
              · simp [results, Tryz.f44, go_sem, p0, p1, p2, p3]
              · repeat (first | exact hBe | refine below_set ?_ (by omega))
            · obtain ⟨rfl, rfl, rfl, rfl, rfl⟩ : 0 = r1 ∧ 0 = r2 ∧ 0 = r3 ∧ (⟨#[]⟩ : ByteArray) = r4 ∧ false = r5 := by simpa using HN.out
              have hBe := HB.out.trans (hb2.mono HB.out.size)
              refine bodyPost_ret (v := .tuple #[.agg #[.int .i64 0, .int .i64 0, .int .i64 0, .string ⟨#[]⟩], .bool false]) ?_ rfl ⟨rfl, ?_⟩
              · simp [results, Tryz.f44, go_sem, p0, p1, p2, p3]
              · repeat (first | exact hBe | refine below_set ?_ (by omega))
            · go_roundg 2
              case rel =>
                refine ⟨1, nn, n1, n2, rfl, Lib.hid ⟨rfl, by omega⟩, Lib.hid (by simpa using HN.out), Lib.hid ?_, Lib.hid (below_set (HBW.out.trans (hb2.mono HBW.out.size)) (Nat.le_refl _))⟩
                have := heap_setCell_same w2 w1.heap.size 0 _ _ (.int .i64 nn) har2'
                simpa using this
              case measure => have := Hk.out.1; omega
            · go_roundg 1
              case rel =>
                refine ⟨2, n0, nn, n2, rfl, Lib.hid ⟨rfl, by omega⟩, Lib.hid (by simpa using HN.out), Lib.hid ?_, Lib.hid (below_set (HBW.out.trans (hb2.mono HBW.out.size)) (Nat.le_refl _))⟩
                have := heap_setCell_same w2 w1.heap.size 1 _ _ (.int .i64 nn) har2'
                simpa using this
              case measure => have := Hk.out.1; omega
            · go_roundg 0
              case rel =>
                refine ⟨3, n0, n1, nn, rfl, Lib.hid ⟨rfl, by omega⟩, Lib.hid (by simpa using HN.out), Lib.hid ?_, Lib.hid (below_set (HBW.out.trans (hb2.mono HBW.out.size)) (Nat.le_refl _))⟩
                have := heap_setCell_same w2 w1.heap.size 2 _ _ (.int .i64 nn) har2'
                simpa using this
              case measure => have := Hk.out.1; omega
  · rw [if_neg hn3] at h
    have hn3' : ((l.length : Int) != 3) = true := by simpa [bne_iff_ne] using fun e => hn3 (by omega)
    obtain ⟨rfl, rfl, rfl, rfl, rfl⟩ : 0 = r1 ∧ 0 = r2 ∧ 0 = r3 ∧ (⟨#[]⟩ : ByteArray) = r4 ∧ false = r5 := by simpa using h
    clear h
    go_enter Tryz.func44, Tryz.ntmps44
    go_wp2_with (first | (go_at_call 72; (try rw [hW0]); refine (CC.out _).mono ?_; rintro e w' ⟨rfl, ⟨n, rfl⟩⟩) | (go_at_call 73; refine (CS.out _).mono ?_; rintro e w1 ⟨v, rfl, hr, hb⟩; obtain ⟨A, cp, rfl⟩ := Kd.R_slice hr; have hk := version_Parse.keep (hk0.out n) hb; obtain ⟨p0, p1, p2, p3, q0, q1, q2, q3⟩ := version_Parse.cells hk))
    have hB1 := (hB0.out n).trans (hb.mono (by simp [hs0]))
    refine bodyPost_ret (v := .tuple #[.agg #[.int .i64 0, .int .i64 0, .int .i64 0, .string ⟨#[]⟩], .bool false]) ?_ rfl ⟨rfl, ?_⟩
    · simp [results, Tryz.f44, go_sem, p0, p1, p2, p3]
    · repeat (first | exact hB1 | refine below_set ?_ (by omega))
end
end Go.Proofs.YtijooffpjfhidaaGreatDoor.G
end
section
namespace Go.Proofs.YtijooffpjfhidaaGreatDoor.G
open Go.RowKit Go.Proofs.YtijooffpjfhidaaGreatDoorW.PrintWords Go.Proofs.YtijooffpjfhidaaGreatDoorW.PrintLast Go.Proofs.YtijooffpjfhidaaGreatDoorW.PrintMore
attribute [local go_sem] Go.Proofs.YtijooffpjfhidaaGreatDoor.Aid.gtr_string max2_int min2_int max_two min_two max_three min_three max_four min_four
set_option linter.unusedVariables false
set_option linter.unusedSimpArgs false
def span_above.f (a0_0 : Int) (a0_1 : Int) (a0_2 : Int) (a0_3 : ByteArray) (a1 : Bool) : Option (Int × Int × Int × ByteArray) := if a1 = true then (some (a0_0, wrap64 (a0_1 + 1), 0, (⟨#[]⟩ : ByteArray))) else (if a0_0 > 0 then (some (wrap64 (a0_0 + 1), 0, 0, (⟨#[]⟩ : ByteArray))) else (if a0_1 > 0 then (some (a0_0, wrap64 (a0_1 + 1), 0, (⟨#[]⟩ : ByteArray))) else (some (a0_0, a0_1, wrap64 (a0_2 + 1), (⟨#[]⟩ : ByteArray)))))
set_option maxHeartbeats 8000000 in
set_option maxRecDepth 100000 in
theorem span_above.calls (a0_0 : Int) (a0_1 : Int) (a0_2 : Int) (a0_3 : ByteArray) (a1 : Bool) (r1 : Int) (r2 : Int) (r3 : Int) (r4 : ByteArray) (w : World) (h : span_above.f a0_0 a0_1 a0_2 a0_3 a1 = some (r1, r2, r3, r4)) :
    Calls Tryz.prog 45 #[.agg #[.int .i64 a0_0, .int .i64 a0_1, .int .i64 a0_2, .string a0_3], .bool a1] w fun e w' => e = .returned (.agg #[.int .i64 r1, .int .i64 r2, .int .i64 r3, .string r4]) ∧ Below w.heap.size w w' := by
  have hu35 := Tryz.underlying35
  have HB := Aside0.mk (Below.refl w.heap.size w)
  have H : (if a1 = true then (some (a0_0, wrap64 (a0_1 + 1), 0, (⟨#[]⟩ : ByteArray))) else (if a0_0 > 0 then (some (wrap64 (a0_0 + 1), 0, 0, (⟨#[]⟩ : ByteArray))) else (if a0_1 > 0 then (some (a0_0, wrap64 (a0_1 + 1), 0, (⟨#[]⟩ : ByteArray))) else (some (a0_0, a0_1, wrap64 (a0_2 + 1), (⟨#[]⟩ : ByteArray)))))) = some (r1, r2, r3, r4) := h
  clear h
  by_cases c3 : a1 = true
  · subst c3
    have H1 : (some (a0_0, wrap64 (a0_1 + 1), 0, (⟨#[]⟩ : ByteArray))) = some (r1, r2, r3, r4) := by rw [if_pos rfl] at H; exact H
    clear H
    have H := H1
    clear H1
    simp only [Option.some.injEq, Prod.mk.injEq] at H
    obtain ⟨rfl, rfl, rfl, rfl⟩ := H
    go_enter Tryz.func45, Tryz.ntmps45
    go_wp2_with (first | ((with_reducible refine gate_dst (N := 2) rfl ?_); refine box_event ?hg (N := 2) ?hd (cs := #[.int .i64 a0_0, .int .i64 a0_1, .int .i64 a0_2, .string a0_3]) (t := 35) ?hr ?_; (case hd => rfl); (case hg => rfl); (case hr => first | (go_simp; done) | (go_simp; rfl)); intro gb192 hg w4 hbox hb; have n0_ := Aside0.mk (below_step (by repeat (first | (with_reducible first | exact HB.out | apply below_alloc | apply pw_below_drewN | apply below_drew1) | exact HB.out)) hb); have n1_ := Aside0.mk (hbox); have n2_ := Aside0.mk ((by rw [hg]; exact (below_size (by repeat (first | (with_reducible first | exact HB.out | apply below_alloc | apply pw_below_drewN | apply below_drew1) | exact HB.out))) : w.heap.size ≤ gb192)); have n3_ := Aside0.mk ((by rw [hg]; exact (below_size (by repeat (first | (with_reducible first | exact HB.out | apply below_alloc | apply pw_below_drewN | apply below_drew1) | exact HB.out))) : w.heap.size ≤ gb192)); clear HB; have HB := n0_; have BK192 := n1_; have GW192 := n2_; have GE192 := n3_; clear n0_ n1_ n2_ n3_; clear hb hbox hg) | ((with_reducible refine gate_dst (N := 4) rfl ?_); refine box_event ?hg (N := 4) ?hd (cs := #[.int .i64 0, .int .i64 0, .int .i64 0, .string (⟨#[]⟩ : ByteArray)]) (t := 35) ?hr ?_; (case hd => rfl); (case hg => rfl); (case hr => first | (go_simp; done) | (go_simp; rfl)); intro gb193 hg w5 hbox hb; have n0_ := Aside0.mk (blk_below (g := gb192) (o := .cells #[.int .i64 a0_0, .int .i64 a0_1, .int .i64 a0_2, .string a0_3] 35 (0, 0)) (by (with_reducible repeat (first | refine blk_drewN ?_ _ | refine blk_drew ?_ | refine blk_alloc ?_ _)); exact BK192.out) hb); have n1_ := Aside0.mk (below_step (by repeat (first | (with_reducible first | exact HB.out | apply below_alloc | apply pw_below_drewN | apply below_drew1 | refine below_set ?_ GE192.out) | exact HB.out)) hb); have n2_ := Aside0.mk (hbox); have n3_ := Aside0.mk ((by rw [hg]; exact (below_size (by repeat (first | (with_reducible first | exact HB.out | apply below_alloc | apply pw_below_drewN | apply below_drew1 | refine below_set ?_ GE192.out) | exact HB.out))) : w.heap.size ≤ gb193)); have n4_ := Aside0.mk ((by rw [hg]; exact (below_size (by repeat (first | (with_reducible first | exact HB.out | apply below_alloc | apply pw_below_drewN | apply below_drew1 | refine below_set ?_ GE192.out) | exact HB.out))) : w.heap.size ≤ gb193)); have n5_ := Aside0.mk ((by rw [hg]; exact Nat.ne_of_lt (blk_lt (g := gb192) (o := .cells #[.int .i64 a0_0, .int .i64 a0_1, .int .i64 a0_2, .string a0_3] 35 (0, 0)) (by (with_reducible repeat (first | refine blk_drewN ?_ _ | refine blk_drew ?_ | refine blk_alloc ?_ _)); exact BK192.out)) : gb192 ≠ gb193)); have n6_ := Aside0.mk ((by rw [hg]; exact Nat.ne_of_gt (blk_lt (g := gb192) (o := .cells #[.int .i64 a0_0, .int .i64 a0_1, .int .i64 a0_2, .string a0_3] 35 (0, 0)) (by (with_reducible repeat (first | refine blk_drewN ?_ _ | refine blk_drew ?_ | refine blk_alloc ?_ _)); exact BK192.out)) : gb193 ≠ gb192)); clear BK192; clear HB; have BK192 := n0_; have HB := n1_; have BK193 := n2_; have GW193 := n3_; have GE193 := n4_; have NB192_193 := n5_; have NB193_192 := n6_; clear n0_ n1_ n2_ n3_ n4_ n5_ n6_; clear hb hbox hg; have hnb6 := NB192_193.out; have hnc6 := NB193_192.out; have hcz7_0 : w5.cell? ⟨gb192, 0, none⟩ = some (.int .i64 a0_0) := (blk_cell BK192.out 0).trans rfl; have hcz7_1 : w5.cell? ⟨gb192, 1, none⟩ = some (.int .i64 a0_1) := (blk_cell BK192.out 1).trans rfl; have hcz7_2 : w5.cell? ⟨gb192, 2, none⟩ = some (.int .i64 a0_2) := (blk_cell BK192.out 2).trans rfl; have hcz7_3 : w5.cell? ⟨gb192, 3, none⟩ = some (.string a0_3) := (blk_cell BK192.out 3).trans rfl; have hfz7_0 := blk_frozen BK192.out 0; have hfz7_1 := blk_frozen BK192.out 1; have hfz7_2 := blk_frozen BK192.out 2; have hfz7_3 := blk_frozen BK192.out 3; have hcz8_0 : w5.cell? ⟨gb193, 0, none⟩ = some (.int .i64 0) := (blk_cell BK193.out 0).trans rfl; have hcz8_1 : w5.cell? ⟨gb193, 1, none⟩ = some (.int .i64 0) := (blk_cell BK193.out 1).trans rfl; have hcz8_2 : w5.cell? ⟨gb193, 2, none⟩ = some (.int .i64 0) := (blk_cell BK193.out 2).trans rfl; have hcz8_3 : w5.cell? ⟨gb193, 3, none⟩ = some (.string (⟨#[]⟩ : ByteArray)) := (blk_cell BK193.out 3).trans rfl; have hfz8_0 := blk_frozen BK193.out 0; have hfz8_1 := blk_frozen BK193.out 1; have hfz8_2 := blk_frozen BK193.out 2; have hfz8_3 := blk_frozen BK193.out 3))
    refine bodyPost_ret (results_cell_row rfl _ _ gb193 35 #[.int .i64 a0_0, .int .i64 (wrap64 (a0_1 + 1)), .int .i64 0, .string (⟨#[]⟩ : ByteArray)] (0, 0) _ rfl (by (with_reducible repeat (first | refine blk_drewN ?_ _ | refine blk_drew ?_ | refine blk_alloc ?_ _)); refine blk_put (cs := #[.int .i64 a0_0, .int .i64 (wrap64 (a0_1 + 1)), .int .i64 0, .string (⟨#[]⟩ : ByteArray)]) ?_ 3 _ rfl; (with_reducible repeat (first | refine blk_drewN ?_ _ | refine blk_drew ?_ | refine blk_alloc ?_ _)); refine blk_put (cs := #[.int .i64 a0_0, .int .i64 (wrap64 (a0_1 + 1)), .int .i64 0, .string (⟨#[]⟩ : ByteArray)]) ?_ 2 _ rfl; (with_reducible repeat (first | refine blk_drewN ?_ _ | refine blk_drew ?_ | refine blk_alloc ?_ _)); refine blk_put (cs := #[.int .i64 a0_0, .int .i64 0, .int .i64 0, .string (⟨#[]⟩ : ByteArray)]) ?_ 1 _ rfl; (with_reducible repeat (first | refine blk_drewN ?_ _ | refine blk_drew ?_ | refine blk_alloc ?_ _)); refine blk_put (cs := #[.int .i64 0, .int .i64 0, .int .i64 0, .string (⟨#[]⟩ : ByteArray)]) ?_ 0 _ rfl; (with_reducible repeat (first | refine blk_drewN ?_ _ | refine blk_drew ?_ | refine blk_alloc ?_ _)); refine blk_far ?_ NB193_192.out _; (with_reducible repeat (first | refine blk_drewN ?_ _ | refine blk_drew ?_ | refine blk_alloc ?_ _)); refine blk_far ?_ NB193_192.out _; (with_reducible repeat (first | refine blk_drewN ?_ _ | refine blk_drew ?_ | refine blk_alloc ?_ _)); refine blk_far ?_ NB193_192.out _; (with_reducible repeat (first | refine blk_drewN ?_ _ | refine blk_drew ?_ | refine blk_alloc ?_ _)); exact BK193.out) Tryz.underlying35 rfl (by kernel_rfl)) rfl ?_
    exact ⟨by first | rfl | (simp [errW_none, errW_some] <;> rfl) | (simp [*, errW_none, errW_some] <;> rfl), by repeat (first | (with_reducible first | exact HB.out | apply below_alloc | apply pw_below_drewN | apply below_drew1 | refine below_set ?_ GE192.out | refine below_set ?_ GE193.out) | exact HB.out)⟩
  · replace c3 := Bool.eq_false_iff.mpr c3
    subst c3
    have H1 : (if a0_0 > 0 then (some (wrap64 (a0_0 + 1), 0, 0, (⟨#[]⟩ : ByteArray))) else (if a0_1 > 0 then (some (a0_0, wrap64 (a0_1 + 1), 0, (⟨#[]⟩ : ByteArray))) else (some (a0_0, a0_1, wrap64 (a0_2 + 1), (⟨#[]⟩ : ByteArray))))) = some (r1, r2, r3, r4) := by rw [if_neg (show ¬ (false = true) by decide)] at H; exact H
    clear H
    have H := H1
    clear H1
    by_cases c9 : a0_0 > 0
    · rw [if_pos c9] at H
      have c9b0 : decide (0 < a0_0) = true := decide_eq_true c9
      clear c9
      simp only [Option.some.injEq, Prod.mk.injEq] at H
      obtain ⟨rfl, rfl, rfl, rfl⟩ := H
      go_enter Tryz.func45, Tryz.ntmps45
      go_wp2_with (first | ((with_reducible refine gate_dst (N := 2) rfl ?_); refine box_event ?hg (N := 2) ?hd (cs := #[.int .i64 a0_0, .int .i64 a0_1, .int .i64 a0_2, .string a0_3]) (t := 35) ?hr ?_; (case hd => rfl); (case hg => rfl); (case hr => first | (go_simp; done) | (go_simp; rfl)); intro gb192 hg w10 hbox hb; have n0_ := Aside0.mk (below_step (by repeat (first | (with_reducible first | exact HB.out | apply below_alloc | apply pw_below_drewN | apply below_drew1) | exact HB.out)) hb); have n1_ := Aside0.mk (hbox); have n2_ := Aside0.mk ((by rw [hg]; exact (below_size (by repeat (first | (with_reducible first | exact HB.out | apply below_alloc | apply pw_below_drewN | apply below_drew1) | exact HB.out))) : w.heap.size ≤ gb192)); have n3_ := Aside0.mk ((by rw [hg]; exact (below_size (by repeat (first | (with_reducible first | exact HB.out | apply below_alloc | apply pw_below_drewN | apply below_drew1) | exact HB.out))) : w.heap.size ≤ gb192)); clear HB; have HB := n0_; have BK192 := n1_; have GW192 := n2_; have GE192 := n3_; clear n0_ n1_ n2_ n3_; clear hb hbox hg) | ((with_reducible refine gate_dst (N := 4) rfl ?_); refine box_event ?hg (N := 4) ?hd (cs := #[.int .i64 0, .int .i64 0, .int .i64 0, .string (⟨#[]⟩ : ByteArray)]) (t := 35) ?hr ?_; (case hd => rfl); (case hg => rfl); (case hr => first | (go_simp; done) | (go_simp; rfl)); intro gb193 hg w11 hbox hb; have n0_ := Aside0.mk (blk_below (g := gb192) (o := .cells #[.int .i64 a0_0, .int .i64 a0_1, .int .i64 a0_2, .string a0_3] 35 (0, 0)) (by (with_reducible repeat (first | refine blk_drewN ?_ _ | refine blk_drew ?_ | refine blk_alloc ?_ _)); exact BK192.out) hb); have n1_ := Aside0.mk (below_step (by repeat (first | (with_reducible first | exact HB.out | apply below_alloc | apply pw_below_drewN | apply below_drew1 | refine below_set ?_ GE192.out) | exact HB.out)) hb); have n2_ := Aside0.mk (hbox); have n3_ := Aside0.mk ((by rw [hg]; exact (below_size (by repeat (first | (with_reducible first | exact HB.out | apply below_alloc | apply pw_below_drewN | apply below_drew1 | refine below_set ?_ GE192.out) | exact HB.out))) : w.heap.size ≤ gb193)); have n4_ := Aside0.mk ((by rw [hg]; exact (below_size (by repeat (first | (with_reducible first | exact HB.out | apply below_alloc | apply pw_below_drewN | apply below_drew1 | refine below_set ?_ GE192.out) | exact HB.out))) : w.heap.size ≤ gb193)); have n5_ := Aside0.mk ((by rw [hg]; exact Nat.ne_of_lt (blk_lt (g := gb192) (o := .cells #[.int .i64 a0_0, .int .i64 a0_1, .int .i64 a0_2, .string a0_3] 35 (0, 0)) (by (with_reducible repeat (first | refine blk_drewN ?_ _ | refine blk_drew ?_ | refine blk_alloc ?_ _)); exact BK192.out)) : gb192 ≠ gb193)); have n6_ := Aside0.mk ((by rw [hg]; exact Nat.ne_of_gt (blk_lt (g := gb192) (o := .cells #[.int .i64 a0_0, .int .i64 a0_1, .int .i64 a0_2, .string a0_3] 35 (0, 0)) (by (with_reducible repeat (first | refine blk_drewN ?_ _ | refine blk_drew ?_ | refine blk_alloc ?_ _)); exact BK192.out)) : gb193 ≠ gb192)); clear BK192; clear HB; have BK192 := n0_; have HB := n1_; have BK193 := n2_; have GW193 := n3_; have GE193 := n4_; have NB192_193 := n5_; have NB193_192 := n6_; clear n0_ n1_ n2_ n3_ n4_ n5_ n6_; clear hb hbox hg; have hnb12 := NB192_193.out; have hnc12 := NB193_192.out; have hcz13_0 : w11.cell? ⟨gb192, 0, none⟩ = some (.int .i64 a0_0) := (blk_cell BK192.out 0).trans rfl; have hcz13_1 : w11.cell? ⟨gb192, 1, none⟩ = some (.int .i64 a0_1) := (blk_cell BK192.out 1).trans rfl; have hcz13_2 : w11.cell? ⟨gb192, 2, none⟩ = some (.int .i64 a0_2) := (blk_cell BK192.out 2).trans rfl; have hcz13_3 : w11.cell? ⟨gb192, 3, none⟩ = some (.string a0_3) := (blk_cell BK192.out 3).trans rfl; have hfz13_0 := blk_frozen BK192.out 0; have hfz13_1 := blk_frozen BK192.out 1; have hfz13_2 := blk_frozen BK192.out 2; have hfz13_3 := blk_frozen BK192.out 3; have hcz14_0 : w11.cell? ⟨gb193, 0, none⟩ = some (.int .i64 0) := (blk_cell BK193.out 0).trans rfl; have hcz14_1 : w11.cell? ⟨gb193, 1, none⟩ = some (.int .i64 0) := (blk_cell BK193.out 1).trans rfl; have hcz14_2 : w11.cell? ⟨gb193, 2, none⟩ = some (.int .i64 0) := (blk_cell BK193.out 2).trans rfl; have hcz14_3 : w11.cell? ⟨gb193, 3, none⟩ = some (.string (⟨#[]⟩ : ByteArray)) := (blk_cell BK193.out 3).trans rfl; have hfz14_0 := blk_frozen BK193.out 0; have hfz14_1 := blk_frozen BK193.out 1; have hfz14_2 := blk_frozen BK193.out 2; have hfz14_3 := blk_frozen BK193.out 3))
      refine bodyPost_ret (results_cell_row rfl _ _ gb193 35 #[.int .i64 (wrap64 (a0_0 + 1)), .int .i64 0, .int .i64 0, .string (⟨#[]⟩ : ByteArray)] (0, 0) _ rfl (by (with_reducible repeat (first | refine blk_drewN ?_ _ | refine blk_drew ?_ | refine blk_alloc ?_ _)); refine blk_put (cs := #[.int .i64 (wrap64 (a0_0 + 1)), .int .i64 0, .int .i64 0, .string (⟨#[]⟩ : ByteArray)]) ?_ 3 _ rfl; (with_reducible repeat (first | refine blk_drewN ?_ _ | refine blk_drew ?_ | refine blk_alloc ?_ _)); refine blk_put (cs := #[.int .i64 (wrap64 (a0_0 + 1)), .int .i64 0, .int .i64 0, .string (⟨#[]⟩ : ByteArray)]) ?_ 2 _ rfl; (with_reducible repeat (first | refine blk_drewN ?_ _ | refine blk_drew ?_ | refine blk_alloc ?_ _)); refine blk_put (cs := #[.int .i64 (wrap64 (a0_0 + 1)), .int .i64 0, .int .i64 0, .string (⟨#[]⟩ : ByteArray)]) ?_ 1 _ rfl; (with_reducible repeat (first | refine blk_drewN ?_ _ | refine blk_drew ?_ | refine blk_alloc ?_ _)); refine blk_put (cs := #[.int .i64 0, .int .i64 0, .int .i64 0, .string (⟨#[]⟩ : ByteArray)]) ?_ 0 _ rfl; (with_reducible repeat (first | refine blk_drewN ?_ _ | refine blk_drew ?_ | refine blk_alloc ?_ _)); refine blk_far ?_ NB193_192.out _; (with_reducible repeat (first | refine blk_drewN ?_ _ | refine blk_drew ?_ | refine blk_alloc ?_ _)); refine blk_far ?_ NB193_192.out _; (with_reducible repeat (first | refine blk_drewN ?_ _ | refine blk_drew ?_ | refine blk_alloc ?_ _)); refine blk_far ?_ NB193_192.out _; (with_reducible repeat (first | refine blk_drewN ?_ _ | refine blk_drew ?_ | refine blk_alloc ?_ _)); refine blk_far ?_ NB193_192.out _; (with_reducible repeat (first | refine blk_drewN ?_ _ | refine blk_drew ?_ | refine blk_alloc ?_ _)); exact BK193.out) Tryz.underlying35 rfl (by kernel_rfl)) rfl ?_
      exact ⟨by first | rfl | (simp [errW_none, errW_some] <;> rfl) | (simp [*, errW_none, errW_some] <;> rfl), by repeat (first | (with_reducible first | exact HB.out | apply below_alloc | apply pw_below_drewN | apply below_drew1 | refine below_set ?_ GE192.out | refine below_set ?_ GE193.out) | exact HB.out)⟩
    · rw [if_neg c9] at H
      have c9b0 : decide (0 < a0_0) = false := decide_eq_false c9
      clear c9
      by_cases c15 : a0_1 > 0
      · rw [if_pos c15] at H
        have c15b0 : decide (0 < a0_1) = true := decide_eq_true c15
        clear c15
        simp only [Option.some.injEq, Prod.mk.injEq] at H
        obtain ⟨rfl, rfl, rfl, rfl⟩ := H
        go_enter Tryz.func45, Tryz.ntmps45
        go_wp2_with (first | ((with_reducible refine gate_dst (N := 2) rfl ?_); refine box_event ?hg (N := 2) ?hd (cs := #[.int .i64 a0_0, .int .i64 a0_1, .int .i64 a0_2, .string a0_3]) (t := 35) ?hr ?_; (case hd => rfl); (case hg => rfl); (case hr => first | (go_simp; done) | (go_simp; rfl)); intro gb192 hg w16 hbox hb; have n0_ := Aside0.mk (below_step (by repeat (first | (with_reducible first | exact HB.out | apply below_alloc | apply pw_below_drewN | apply below_drew1) | exact HB.out)) hb); have n1_ := Aside0.mk (hbox); have n2_ := Aside0.mk ((by rw [hg]; exact (below_size (by repeat (first | (with_reducible first | exact HB.out | apply below_alloc | apply pw_below_drewN | apply below_drew1) | exact HB.out))) : w.heap.size ≤ gb192)); have n3_ := Aside0.mk ((by rw [hg]; exact (below_size (by repeat (first | (with_reducible first | exact HB.out | apply below_alloc | apply pw_below_drewN | apply below_drew1) | exact HB.out))) : w.heap.size ≤ gb192)); clear HB; have HB := n0_; have BK192 := n1_; have GW192 := n2_; have GE192 := n3_; clear n0_ n1_ n2_ n3_; clear hb hbox hg) | ((with_reducible refine gate_dst (N := 4) rfl ?_); refine box_event ?hg (N := 4) ?hd (cs := #[.int .i64 0, .int .i64 0, .int .i64 0, .string (⟨#[]⟩ : ByteArray)]) (t := 35) ?hr ?_; (case hd => rfl); (case hg => rfl); (case hr => first | (go_simp; done) | (go_simp; rfl)); intro gb193 hg w17 hbox hb; have n0_ := Aside0.mk (blk_below (g := gb192) (o := .cells #[.int .i64 a0_0, .int .i64 a0_1, .int .i64 a0_2, .string a0_3] 35 (0, 0)) (by (with_reducible repeat (first | refine blk_drewN ?_ _ | refine blk_drew ?_ | refine blk_alloc ?_ _)); exact BK192.out) hb); have n1_ := Aside0.mk (below_step (by repeat (first | (with_reducible first | exact HB.out | apply below_alloc | apply pw_below_drewN | apply below_drew1 | refine below_set ?_ GE192.out) | exact HB.out)) hb); have n2_ := Aside0.mk (hbox); have n3_ := Aside0.mk ((by rw [hg]; exact (below_size (by repeat (first | (with_reducible first | exact HB.out | apply below_alloc | apply pw_below_drewN | apply below_drew1 | refine below_set ?_ GE192.out) | exact HB.out))) : w.heap.size ≤ gb193)); have n4_ := Aside0.mk ((by rw [hg]; exact (below_size (by repeat (first | (with_reducible first | exact HB.out | apply below_alloc | apply pw_below_drewN | apply below_drew1 | refine below_set ?_ GE192.out) | exact HB.out))) : w.heap.size ≤ gb193)); have n5_ := Aside0.mk ((by rw [hg]; exact Nat.ne_of_lt (blk_lt (g := gb192) (o := .cells #[.int .i64 a0_0, .int .i64 a0_1, .int .i64 a0_2, .string a0_3] 35 (0, 0)) (by (with_reducible repeat (first | refine blk_drewN ?_ _ | refine blk_drew ?_ | refine blk_alloc ?_ _)); exact BK192.out)) : gb192 ≠ gb193)); have n6_ := Aside0.mk ((by rw [hg]; exact Nat.ne_of_gt (blk_lt (g := gb192) (o := .cells #[.int .i64 a0_0, .int .i64 a0_1, .int .i64 a0_2, .string a0_3] 35 (0, 0)) (by (with_reducible repeat (first | refine blk_drewN ?_ _ | refine blk_drew ?_ | refine blk_alloc ?_ _)); exact BK192.out)) : gb193 ≠ gb192)); clear BK192; clear HB; have BK192 := n0_; have HB := n1_; have BK193 := n2_; have GW193 := n3_; have GE193 := n4_; have NB192_193 := n5_; have NB193_192 := n6_; clear n0_ n1_ n2_ n3_ n4_ n5_ n6_; clear hb hbox hg; have hnb18 := NB192_193.out; have hnc18 := NB193_192.out; have hcz19_0 : w17.cell? ⟨gb192, 0, none⟩ = some (.int .i64 a0_0) := (blk_cell BK192.out 0).trans rfl; have hcz19_1 : w17.cell? ⟨gb192, 1, none⟩ = some (.int .i64 a0_1) := (blk_cell BK192.out 1).trans rfl; have hcz19_2 : w17.cell? ⟨gb192, 2, none⟩ = some (.int .i64 a0_2) := (blk_cell BK192.out 2).trans rfl; have hcz19_3 : w17.cell? ⟨gb192, 3, none⟩ = some (.string a0_3) := (blk_cell BK192.out 3).trans rfl; have hfz19_0 := blk_frozen BK192.out 0; have hfz19_1 := blk_frozen BK192.out 1; have hfz19_2 := blk_frozen BK192.out 2; have hfz19_3 := blk_frozen BK192.out 3; have hcz20_0 : w17.cell? ⟨gb193, 0, none⟩ = some (.int .i64 0) := (blk_cell BK193.out 0).trans rfl; have hcz20_1 : w17.cell? ⟨gb193, 1, none⟩ = some (.int .i64 0) := (blk_cell BK193.out 1).trans rfl; have hcz20_2 : w17.cell? ⟨gb193, 2, none⟩ = some (.int .i64 0) := (blk_cell BK193.out 2).trans rfl; have hcz20_3 : w17.cell? ⟨gb193, 3, none⟩ = some (.string (⟨#[]⟩ : ByteArray)) := (blk_cell BK193.out 3).trans rfl; have hfz20_0 := blk_frozen BK193.out 0; have hfz20_1 := blk_frozen BK193.out 1; have hfz20_2 := blk_frozen BK193.out 2; have hfz20_3 := blk_frozen BK193.out 3))
        refine bodyPost_ret (results_cell_row rfl _ _ gb193 35 #[.int .i64 a0_0, .int .i64 (wrap64 (a0_1 + 1)), .int .i64 0, .string (⟨#[]⟩ : ByteArray)] (0, 0) _ rfl (by (with_reducible repeat (first | refine blk_drewN ?_ _ | refine blk_drew ?_ | refine blk_alloc ?_ _)); refine blk_put (cs := #[.int .i64 a0_0, .int .i64 (wrap64 (a0_1 + 1)), .int .i64 0, .string (⟨#[]⟩ : ByteArray)]) ?_ 3 _ rfl; (with_reducible repeat (first | refine blk_drewN ?_ _ | refine blk_drew ?_ | refine blk_alloc ?_ _)); refine blk_put (cs := #[.int .i64 a0_0, .int .i64 (wrap64 (a0_1 + 1)), .int .i64 0, .string (⟨#[]⟩ : ByteArray)]) ?_ 2 _ rfl; (with_reducible repeat (first | refine blk_drewN ?_ _ | refine blk_drew ?_ | refine blk_alloc ?_ _)); refine blk_put (cs := #[.int .i64 a0_0, .int .i64 0, .int .i64 0, .string (⟨#[]⟩ : ByteArray)]) ?_ 1 _ rfl; (with_reducible repeat (first | refine blk_drewN ?_ _ | refine blk_drew ?_ | refine blk_alloc ?_ _)); refine blk_put (cs := #[.int .i64 0, .int .i64 0, .int .i64 0, .string (⟨#[]⟩ : ByteArray)]) ?_ 0 _ rfl; (with_reducible repeat (first | refine blk_drewN ?_ _ | refine blk_drew ?_ | refine blk_alloc ?_ _)); refine blk_far ?_ NB193_192.out _; (with_reducible repeat (first | refine blk_drewN ?_ _ | refine blk_drew ?_ | refine blk_alloc ?_ _)); refine blk_far ?_ NB193_192.out _; (with_reducible repeat (first | refine blk_drewN ?_ _ | refine blk_drew ?_ | refine blk_alloc ?_ _)); refine blk_far ?_ NB193_192.out _; (with_reducible repeat (first | refine blk_drewN ?_ _ | refine blk_drew ?_ | refine blk_alloc ?_ _)); exact BK193.out) Tryz.underlying35 rfl (by kernel_rfl)) rfl ?_
        exact ⟨by first | rfl | (simp [errW_none, errW_some] <;> rfl) | (simp [*, errW_none, errW_some] <;> rfl), by repeat (first | (with_reducible first | exact HB.out | apply below_alloc | apply pw_below_drewN | apply below_drew1 | refine below_set ?_ GE192.out | refine below_set ?_ GE193.out) | exact HB.out)⟩
      · rw [if_neg c15] at H
        have c15b0 : decide (0 < a0_1) = false := decide_eq_false c15
        clear c15
        simp only [Option.some.injEq, Prod.mk.injEq] at H
        obtain ⟨rfl, rfl, rfl, rfl⟩ := H
        go_enter Tryz.func45, Tryz.ntmps45
        go_wp2_with (first | ((with_reducible refine gate_dst (N := 2) rfl ?_); refine box_event ?hg (N := 2) ?hd (cs := #[.int .i64 a0_0, .int .i64 a0_1, .int .i64 a0_2, .string a0_3]) (t := 35) ?hr ?_; (case hd => rfl); (case hg => rfl); (case hr => first | (go_simp; done) | (go_simp; rfl)); intro gb192 hg w21 hbox hb; have n0_ := Aside0.mk (below_step (by repeat (first | (with_reducible first | exact HB.out | apply below_alloc | apply pw_below_drewN | apply below_drew1) | exact HB.out)) hb); have n1_ := Aside0.mk (hbox); have n2_ := Aside0.mk ((by rw [hg]; exact (below_size (by repeat (first | (with_reducible first | exact HB.out | apply below_alloc | apply pw_below_drewN | apply below_drew1) | exact HB.out))) : w.heap.size ≤ gb192)); have n3_ := Aside0.mk ((by rw [hg]; exact (below_size (by repeat (first | (with_reducible first | exact HB.out | apply below_alloc | apply pw_below_drewN | apply below_drew1) | exact HB.out))) : w.heap.size ≤ gb192)); clear HB; have HB := n0_; have BK192 := n1_; have GW192 := n2_; have GE192 := n3_; clear n0_ n1_ n2_ n3_; clear hb hbox hg) | ((with_reducible refine gate_dst (N := 4) rfl ?_); refine box_event ?hg (N := 4) ?hd (cs := #[.int .i64 0, .int .i64 0, .int .i64 0, .string (⟨#[]⟩ : ByteArray)]) (t := 35) ?hr ?_; (case hd => rfl); (case hg => rfl); (case hr => first | (go_simp; done) | (go_simp; rfl)); intro gb193 hg w22 hbox hb; have n0_ := Aside0.mk (blk_below (g := gb192) (o := .cells #[.int .i64 a0_0, .int .i64 a0_1, .int .i64 a0_2, .string a0_3] 35 (0, 0)) (by (with_reducible repeat (first | refine blk_drewN ?_ _ | refine blk_drew ?_ | refine blk_alloc ?_ _)); exact BK192.out) hb); have n1_ := Aside0.mk (below_step (by repeat (first | (with_reducible first | exact HB.out | apply below_alloc | apply pw_below_drewN | apply below_drew1 | refine below_set ?_ GE192.out) | exact HB.out)) hb); have n2_ := Aside0.mk (hbox); have n3_ := Aside0.mk ((by rw [hg]; exact (below_size (by repeat (first | (with_reducible first | exact HB.out | apply below_alloc | apply pw_below_drewN | apply below_drew1 | refine below_set ?_ GE192.out) | exact HB.out))) : w.heap.size ≤ gb193)); have n4_ := Aside0.mk ((by rw [hg]; exact (below_size (by repeat (first | (with_reducible first | exact HB.out | apply below_alloc | apply pw_below_drewN | apply below_drew1 | refine below_set ?_ GE192.out) | exact HB.out))) : w.heap.size ≤ gb193)); have n5_ := Aside0.mk ((by rw [hg]; exact Nat.ne_of_lt (blk_lt (g := gb192) (o := .cells #[.int .i64 a0_0, .int .i64 a0_1, .int .i64 a0_2, .string a0_3] 35 (0, 0)) (by (with_reducible repeat (first | refine blk_drewN ?_ _ | refine blk_drew ?_ | refine blk_alloc ?_ _)); exact BK192.out)) : gb192 ≠ gb193)); have n6_ := Aside0.mk ((by rw [hg]; exact Nat.ne_of_gt (blk_lt (g := gb192) (o := .cells #[.int .i64 a0_0, .int .i64 a0_1, .int .i64 a0_2, .string a0_3] 35 (0, 0)) (by (with_reducible repeat (first | refine blk_drewN ?_ _ | refine blk_drew ?_ | refine blk_alloc ?_ _)); exact BK192.out)) : gb193 ≠ gb192)); clear BK192; clear HB; have BK192 := n0_; have HB := n1_; have BK193 := n2_; have GW193 := n3_; have GE193 := n4_; have NB192_193 := n5_; have NB193_192 := n6_; clear n0_ n1_ n2_ n3_ n4_ n5_ n6_; clear hb hbox hg; have hnb23 := NB192_193.out; have hnc23 := NB193_192.out; have hcz24_0 : w22.cell? ⟨gb192, 0, none⟩ = some (.int .i64 a0_0) := (blk_cell BK192.out 0).trans rfl; have hcz24_1 : w22.cell? ⟨gb192, 1, none⟩ = some (.int .i64 a0_1) := (blk_cell BK192.out 1).trans rfl; have hcz24_2 : w22.cell? ⟨gb192, 2, none⟩ = some (.int .i64 a0_2) := (blk_cell BK192.out 2).trans rfl; have hcz24_3 : w22.cell? ⟨gb192, 3, none⟩ = some (.string a0_3) := (blk_cell BK192.out 3).trans rfl; have hfz24_0 := blk_frozen BK192.out 0; have hfz24_1 := blk_frozen BK192.out 1; have hfz24_2 := blk_frozen BK192.out 2; have hfz24_3 := blk_frozen BK192.out 3; have hcz25_0 : w22.cell? ⟨gb193, 0, none⟩ = some (.int .i64 0) := (blk_cell BK193.out 0).trans rfl; have hcz25_1 : w22.cell? ⟨gb193, 1, none⟩ = some (.int .i64 0) := (blk_cell BK193.out 1).trans rfl; have hcz25_2 : w22.cell? ⟨gb193, 2, none⟩ = some (.int .i64 0) := (blk_cell BK193.out 2).trans rfl; have hcz25_3 : w22.cell? ⟨gb193, 3, none⟩ = some (.string (⟨#[]⟩ : ByteArray)) := (blk_cell BK193.out 3).trans rfl; have hfz25_0 := blk_frozen BK193.out 0; have hfz25_1 := blk_frozen BK193.out 1; have hfz25_2 := blk_frozen BK193.out 2; have hfz25_3 := blk_frozen BK193.out 3))
        refine bodyPost_ret (results_cell_row rfl _ _ gb193 35 #[.int .i64 a0_0, .int .i64 a0_1, .int .i64 (wrap64 (a0_2 + 1)), .string (⟨#[]⟩ : ByteArray)] (0, 0) _ rfl (by (with_reducible repeat (first | refine blk_drewN ?_ _ | refine blk_drew ?_ | refine blk_alloc ?_ _)); refine blk_put (cs := #[.int .i64 a0_0, .int .i64 a0_1, .int .i64 (wrap64 (a0_2 + 1)), .string (⟨#[]⟩ : ByteArray)]) ?_ 3 _ rfl; (with_reducible repeat (first | refine blk_drewN ?_ _ | refine blk_drew ?_ | refine blk_alloc ?_ _)); refine blk_put (cs := #[.int .i64 a0_0, .int .i64 a0_1, .int .i64 0, .string (⟨#[]⟩ : ByteArray)]) ?_ 2 _ rfl; (with_reducible repeat (first | refine blk_drewN ?_ _ | refine blk_drew ?_ | refine blk_alloc ?_ _)); refine blk_put (cs := #[.int .i64 a0_0, .int .i64 0, .int .i64 0, .string (⟨#[]⟩ : ByteArray)]) ?_ 1 _ rfl; (with_reducible repeat (first | refine blk_drewN ?_ _ | refine blk_drew ?_ | refine blk_alloc ?_ _)); refine blk_put (cs := #[.int .i64 0, .int .i64 0, .int .i64 0, .string (⟨#[]⟩ : ByteArray)]) ?_ 0 _ rfl; (with_reducible repeat (first | refine blk_drewN ?_ _ | refine blk_drew ?_ | refine blk_alloc ?_ _)); refine blk_far ?_ NB193_192.out _; (with_reducible repeat (first | refine blk_drewN ?_ _ | refine blk_drew ?_ | refine blk_alloc ?_ _)); refine blk_far ?_ NB193_192.out _; (with_reducible repeat (first | refine blk_drewN ?_ _ | refine blk_drew ?_ | refine blk_alloc ?_ _)); exact BK193.out) Tryz.underlying35 rfl (by kernel_rfl)) rfl ?_
        exact ⟨by first | rfl | (simp [errW_none, errW_some] <;> rfl) | (simp [*, errW_none, errW_some] <;> rfl), by repeat (first | (with_reducible first | exact HB.out | apply below_alloc | apply pw_below_drewN | apply below_drew1 | refine below_set ?_ GE192.out | refine below_set ?_ GE193.out) | exact HB.out)⟩
end Go.Proofs.YtijooffpjfhidaaGreatDoor.G
end
section
namespace Go.Proofs.YtijooffpjfhidaaGreatDoor.G
open Go.RowKit Go.Proofs.YtijooffpjfhidaaGreatDoorW.PrintWords Go.Proofs.YtijooffpjfhidaaGreatDoorW.PrintLast Go.Proofs.YtijooffpjfhidaaGreatDoorW.PrintMore
attribute [local go_sem] Go.Proofs.YtijooffpjfhidaaGreatDoor.Aid.gtr_string max2_int min2_int max_two min_two max_three min_three max_four min_four
set_option linter.unusedVariables false
set_option linter.unusedSimpArgs false
def span_Parse.sg (s : ByteArray) : List (Int × ByteArray) → Int → ByteArray → Option (Int × ByteArray)
  | [], op, rest => some (op, rest)
  | x :: xs, op, rest => (strings_CutPrefix.f s x.2).bind fun c => if c.2 = true then (if rest = s then span_Parse.sg s xs x.1 c.1 else span_Parse.sg s xs op rest) else span_Parse.sg s xs op rest
def span_Parse.wide (s : ByteArray) (t : Bool) : Bool := t || decide (bt s 0 = 94)
def span_Parse.word (k : Nat) (s : ByteArray) : Option (List S45 × Bool) :=
  if s.toList.isEmpty = true then some ([], true) else if s = ⟨#[42]⟩ then some ([], true) else
  (strings_HasPrefix.f s ⟨#[126]⟩).bind fun t =>
    (span_Parse.sg s span_Print.signs (if span_Parse.wide s t = true then 5 else 1) (if span_Parse.wide s t = true then s.extract 1 s.size else s)).bind fun o => (version_Parse.f k o.2).bind fun v => if v.2.2.2.2 = false then some ([], false) else
      if span_Parse.wide s t = true then (span_above.f v.1 v.2.1 v.2.2.1 v.2.2.2.1 t).bind fun n => some ([⟨o.1, ⟨v.1, v.2.1, v.2.2.1, v.2.2.2.1⟩⟩, ⟨2, ⟨n.1, n.2.1, n.2.2.1, n.2.2.2⟩⟩], true)
      else some ([⟨o.1, ⟨v.1, v.2.1, v.2.2.1, v.2.2.2.1⟩⟩], true)
def span_Parse.read (k : Nat) : List ByteArray → List S45 → Option (List S45 × Bool)
  | [], acc => some (acc, true)
  | s :: ws, acc => if acc.length < 1000000 then (span_Parse.word k s).bind fun o => if o.2 = false then some ([], false) else span_Parse.read k ws (acc ++ o.1) else none
def span_Parse.go (k : Nat) : List ByteArray → List (List S45) → Option (List (List S45) × Bool)
  | [], all => (span_right.f k all).bind fun g => if g = true then some (all, true) else some ([], false)
  | p :: ps, all => if p.size ≤ 140737488355328 then (if all.length < 1000000 then (span_Parse.read k (Go.Proofs.YtijooffpjfhidaaGreatDoor.Seq.cutsL 32 p) []).bind fun o => if o.2 = false then some ([], false) else span_Parse.go k ps (all ++ [o.1]) else none) else none
def span_Parse.f (k : Nat) (a0 : ByteArray) : Option (List (List S45) × Bool) := if a0.size ≤ 4294967280 then span_Parse.go k (Go.Proofs.YtijooffpjfhidaaGreatDoor.Seq.cutsD a0) [] else none
section
open Lib Go.Proofs.YtijooffpjfhidaaGreatDoor.Rng Go.Proofs.YtijooffpjfhidaaGreatDoor.Seq Go.Proofs.YtijooffpjfhidaaGreatDoor.App
theorem span_Parse.fh {acc : List S45} {W w1 : World} {B base : Nat} {u v1 : Value} {o : Obj} (hb : Boxed W B 38 u) (hR : Kd.R k45 45 W base (fun _ => True) u acc)
    (hg : (W.alloc o).grownBy w1 u.ownBlock) (hbase : base ≤ W.heap.size) : Fh 45 B base W (w1.setCell ⟨B, 0, none⟩ v1) := by
  have h1 := hg.size
  rw [World.size_alloc] at h1
  have hown := (Kd.R_own hR)
  have hat : ∀ k, k < W.heap.size → k ≠ B → some k ≠ u.ownBlock → (w1.setCell ⟨B, 0, none⟩ v1).heap[k]? = W.heap[k]? := fun k hk hB hn =>
    (Below.heap_setCell w1 ⟨B, 0, none⟩ v1 k hB).trans ((hg.block k (by rw [World.size_alloc]; omega) hn).trans (Below.heap_alloc W o k hk))
  refine ⟨hg.os, hg.tape, hg.output, ?_, fun k hk hB hl => hat k hl hB (fun e => ?_), fun k o' hB ho hr => (hat k (Array.getElem?_eq_some_iff.1 ho).1 hB (fun e => ?_)).trans ho⟩
  · exact Nat.le_trans (by omega) (KeepsWalks.setCell w1 ⟨B, 0, none⟩ v1).size
  · have := Kd.R_base hR k e.symm; omega
  · obtain ⟨_, h2⟩ := hown
    obtain ⟨cells, hc⟩ := own_typed h2 k e.symm
    rw [hc] at ho; cases ho; simp [isRow] at hr
set_option maxRecDepth 100000 in
set_option maxHeartbeats 4000000 in
theorem span_Parse.hand (op x y z : Int) (s : ByteArray) (acc : List S45) (W : World) (B base : Nat) (u : Value) (hb : Boxed W B 38 u) (hR : Kd.R k45 45 W base (fun _ => True) u acc)
    (hB : B < base) (hbase : base ≤ W.heap.size) (hl : acc.length < 2000000) :
    Calls Tryz.prog 25 #[.int .i64 op, .agg #[.int .i64 x, .int .i64 y, .int .i64 z, .string s], .pointer (some ⟨B, 0, none⟩)] W fun e w' => (∃ q, e = .returned q) ∧
      (∃ u', Boxed w' B 38 u' ∧ Kd.R k45 45 w' base (fun _ => True) u' (acc ++ [⟨op, ⟨x, y, z, s⟩⟩])) ∧ Fh 45 B base W w' := by
  obtain ⟨A, c, rfl⟩ := Kd.R_slice hR
  have hc := hb.cell
  have hf := hb.frozen
  have hlt := hb.lt
  have HB := Lib.hid hb
  have HR := Lib.hid hR
  have LM := Lib.hid hl
  have hu := Tryz.underlying35
  clear hb hR hl
  go_enter Tryz.func25, Tryz.ntmps25
  go_wp2_with (first | ((with_reducible refine gate_builtin (b := .append) (xs := #[.tmp 5, .tmp 9]) rfl ?_); at_builtin; refine Kd.R_append k45 (w0 := W) base ?a1 (.tmp 5) (.tmp 9) 38 45 (.agg #[(.int .i64 0), (.int .i64 0), (.int .i64 0), (.int .i64 0), (.string ⟨#[]⟩)]) 48 ?a2 ?a3 ?a4 ?a5 ?a6 ?a7 (.slice A acc.length c) acc ⟨op, ⟨x, y, z, s⟩⟩ [.int .i64 op, .int .i64 x, .int .i64 y, .int .i64 z, .string s] (fun _ => True) (fun _ => False) ?aY ?aX ?aP ?aK ?aF ?aO ?aB ?aS ?aL ?_; (case a1 => rfl); (case a2 => rfl); (case a3 => exact Tryz.underlying38); (case a4 => exact info45); (case a5 => rfl); (case a6 => decide); (case a7 => decide); (case aK => exact fun _ hk => hk.elim); (case aY => rfl); (case aX => first | rfl | (rw [World.size_alloc]; rfl)); (case aP => exact k45_mkM _ _ _ _); (case aB => exact (Below.refl _ W).alloc hbase _); (case aF => exact (fun _ _ => trivial)); (case aO => exact Kd.R_alloc HR.out _); (case aS => rw [World.size_alloc]; omega); (case aL => have := LM.out; omega); intro v1 w1 ho hb1 hg hat; have hne : some B ≠ (Value.slice A acc.length c).ownBlock := Kd.R_ne HR.out HB.out (by decide); have hbw := (HB.out.alloc (Obj.cells #[.int .i64 x, .int .i64 y, .int .i64 z, .string s] 35)).kept hg hne; have HW := Lib.hid hbw; have hc1 := hbw.cell; have hf1 := hbw.frozen; obtain ⟨A1, c1, rfl⟩ := Kd.R_slice ho; have HO := Lib.hid ho; have HG := Lib.hid hg; have HNE := Lib.hid hne; clear ho hb1 hg hat hne hbw))
  go_end0
  have hO := HO.out
  rw [List.length_append, List.length_singleton] at hO
  refine ⟨⟨_, rfl⟩, ⟨_, HW.out.set _, Kd.R_set hO HW.out (by decide) 0 _⟩, span_Parse.fh HB.out HR.out HG.out hbase⟩
theorem span_Parse.seqW2 (s sep : ByteArray) (w : World) (o1 o2 : Obj) (N : Nat) (hN : w.heap.size = N) (W0 : World) (h : seqW s sep ((w.alloc o1).alloc o2) = W0) :
    W0.heap.size = N + 5 ∧ W0.heap[N]? = some o1 ∧ W0.heap[N + 1]? = some o2 ∧ Boxed W0 (N + 2) 9 (.string s) ∧ Boxed W0 (N + 2 + 1) 9 (.string sep) ∧ Boxed W0 (N + 2 + 2) 3 (.int .i64 0) ∧ Below N w W0 := by
  subst h
  unfold seqW Boxed
  simp only [alloc_at, World.size_alloc, hN]
  refine ⟨trivial, ?_, ?_, ?_, ?_, ?_, ?_⟩
  · rw [if_neg (by omega), if_neg (by omega), if_neg (by omega), if_neg (by omega), if_pos trivial]
  · rw [if_neg (by omega), if_neg (by omega), if_neg (by omega), if_pos trivial]
  · rw [if_neg (by omega), if_neg (by omega), if_pos trivial]
  · rw [if_neg (by omega), if_pos trivial]
  · rw [if_pos trivial]
  · subst hN
    exact (((((Below.refl _ w).alloc (Nat.le_refl _) _).alloc (by simp) _).alloc (by simp; omega) _).alloc (by simp; omega) _).alloc (by simp; omega) _
theorem span_Parse.same {k : Nat} {bs acc r : List S45} {okw g : Bool} {ws : List ByteArray} {A B C : Prop} (h : (some ([], true) : Option (List S45 × Bool)) = some (bs, okw)) (h2 : (if okw = false then some ([], false) else span_Parse.read k ws (acc ++ bs)) = some (r, g))
    (h3 : A ∧ B ∧ (span_Parse.read k ws acc = some (r, g) → C)) : A ∧ B ∧ C := by
  obtain ⟨rfl, rfl⟩ := Prod.mk.inj (Option.some.inj h)
  rw [if_neg (by decide), List.append_nil] at h2
  exact ⟨h3.1, h3.2.1, h3.2.2 h2⟩
attribute [local go_sem] Oper.semAt_some span_Print.idx0 span_Print.idx1 span_Print.idx2 span_Print.idx3 span_Print.idx4
theorem span_Parse.after {B N : Nat} {w W X w8 W0 : World} {hv : Value} {cs : Array Value} (hBN : B < w.heap.size) (hN : w.heap.size = N) (hs0 : W0.heap.size = N + 5)
    (hx : Boxed (X.alloc (.cells cs 35)) N 52 hv ∧ Boxed (X.alloc (.cells cs 35)) (N + 1) 4 (.bool false) ∧ Fr B w (X.alloc (.cells cs 35)) ∧ KeepsFrom W0.heap.size W (X.alloc (.cells cs 35)) ∧ ((X.alloc (.cells cs 35)).heap[N + 2]? = W.heap[N + 2]? ∧ (X.alloc (.cells cs 35)).heap[N + 2 + 1]? = W.heap[N + 2 + 1]? ∧ (X.alloc (.cells cs 35)).heap[N + 2 + 2]? = W.heap[N + 2 + 2]?) ∧ W.heap.size ≤ (X.alloc (.cells cs 35)).heap.size)
    (hW : N + 6 ≤ W.heap.size) (hX : W.heap.size ≤ X.heap.size)
    (h : Fh 45 B (N + 5) (X.alloc (.cells cs 35)) w8) :
    Boxed w8 N 52 hv ∧ Boxed w8 (N + 1) 4 (.bool false) ∧ Fr B w w8 ∧ KeepsFrom W0.heap.size W w8 ∧ (w8.heap[N + 2]? = W.heap[N + 2]? ∧ w8.heap[N + 2 + 1]? = W.heap[N + 2 + 1]? ∧ w8.heap[N + 2 + 2]? = W.heap[N + 2 + 2]?) ∧ N + 6 ≤ w8.heap.size ∧ w8.heap[X.heap.size]? = some (.cells cs 35 (0, 0)) := by
  obtain ⟨x3, x4, x5, x6, x7, x8⟩ := hx
  refine ⟨h.boxed x3 (by omega) (by decide), h.boxed x4 (by omega) (by decide), Fh.fr x5 h (by omega), x6.trans (h.keeps (by omega)), ⟨(h.low _ (by omega) (by omega) (by omega)).trans x7.1, (h.low _ (by omega) (by omega) (by omega)).trans x7.2.1, (h.low _ (by omega) (by omega) (by omega)).trans x7.2.2⟩, Nat.le_trans (by omega) h.size, h.same _ _ (by omega) (World.alloc_heap_new X _) rfl⟩
theorem span_Parse.after2 {B N : Nat} {w W w8 w9 w10 W0 : World} {hv : Value} {P : Prop} (hBN : B < w.heap.size) (hN : w.heap.size = N) (hs0 : W0.heap.size = N + 5)
    (hx : Boxed w8 N 52 hv ∧ Boxed w8 (N + 1) 4 (.bool false) ∧ Fr B w w8 ∧ KeepsFrom W0.heap.size W w8 ∧ (w8.heap[N + 2]? = W.heap[N + 2]? ∧ w8.heap[N + 2 + 1]? = W.heap[N + 2 + 1]? ∧ w8.heap[N + 2 + 2]? = W.heap[N + 2 + 2]?) ∧ N + 6 ≤ w8.heap.size ∧ P)
    (hb : Below w8.heap.size w8 w9) (h : Fh 45 B (N + 5) w9 w10) :
    Boxed w10 N 52 hv ∧ Boxed w10 (N + 1) 4 (.bool false) ∧ Fr B w w10 ∧ KeepsFrom W0.heap.size W w10 ∧ (w10.heap[N + 2]? = W.heap[N + 2]? ∧ w10.heap[N + 2 + 1]? = W.heap[N + 2 + 1]? ∧ w10.heap[N + 2 + 2]? = W.heap[N + 2 + 2]?) := by
  obtain ⟨x3, x4, x5, x6, x7, x8, _⟩ := hx
  have hz := hb.size
  have hk : KeepsFrom W0.heap.size w8 w9 := ⟨hb.size, fun k o _ hk _ => (hb.block k (Array.getElem?_eq_some_iff.1 hk).1).trans hk⟩
  have hat : ∀ k, k < N + 5 → k ≠ B → w10.heap[k]? = w8.heap[k]? := fun k h1 h2 => (h.low _ h1 h2 (by omega)).trans (hb.block k (by omega))
  exact ⟨h.boxed (boxed_same (hb.block _ (by omega)) x3) (by omega) (by decide), h.boxed (boxed_same (hb.block _ (by omega)) x4) (by omega) (by decide), Fh.fr (x5.step hb x5.size) h (by omega), x6.trans (hk.trans (h.keeps (by omega))), ⟨(hat _ (by omega) (by omega)).trans x7.1, (hat _ (by omega) (by omega)).trans x7.2.1, (hat _ (by omega) (by omega)).trans x7.2.2⟩⟩
theorem span_Parse.fin {k : Nat} {bs bs' acc acc' r : List S45} {g : Bool} {ws : List ByteArray} {C : Prop} (h : bs' = bs) (h2 : (if true = false then some ([], false) else span_Parse.read k ws (acc ++ bs)) = some (r, g))
    (he : acc ++ bs' = acc') (h3 : span_Parse.read k ws acc' = some (r, g) → C) : C := by
  subst h
  rw [if_neg (by decide), he] at h2
  exact h3 h2
theorem span_Parse.nth (n : Nat) (hn : n < 5) : ∃ y1 y2, span_Print.signs.drop n = (y1, y2) :: span_Print.signs.drop (n + 1) ∧ ∀ w, (Instr.index 58 (.agg #[.int .i64 3, .string ⟨#[60, 61]⟩, .int .i64 5, .string ⟨#[62, 61]⟩, .int .i64 2, .string ⟨#[60]⟩, .int .i64 4, .string ⟨#[62]⟩, .int .i64 1, .string ⟨#[61]⟩]) (.int .i64 (n : Nat))).run Tryz.prog w = .ok (.agg #[.int .i64 y1, .string y2]) w := by
  obtain rfl | rfl | rfl | rfl | rfl : n = 0 ∨ n = 1 ∨ n = 2 ∨ n = 3 ∨ n = 4 := by omega
  · exact ⟨_, _, rfl, span_Print.idx0⟩
  · exact ⟨_, _, rfl, span_Print.idx1⟩
  · exact ⟨_, _, rfl, span_Print.idx2⟩
  · exact ⟨_, _, rfl, span_Print.idx3⟩
  · exact ⟨_, _, rfl, span_Print.idx4⟩
set_option maxRecDepth 100000 in
set_option maxHeartbeats 8000000 in
theorem span_Parse.read_calls (k : Nat) (s : ByteArray) (r : List S45) (g : Bool) (w w0 : World) (B : Nat) (h : span_Parse.read k (cutsL 32 s) [] = some (r, g)) (hs : s.size ≤ 140737488355328) (hb : Boxed w B 38 (.slice none 0 0))
    (hw0 : Below w0.heap.size w0 w) (h0 : w0.heap.size ≤ B) (hLD : LD w0) :
    Calls Tryz.prog 24 #[.string s, .func (.func 25) #[] #[.pointer (some ⟨B, 0, none⟩)]] w fun e w' => e = .returned (.bool g) ∧ (∃ u, Boxed w' B 38 u ∧ (g = true → Kd.R k45 45 w' w.heap.size (fun _ => True) u r)) ∧ Fr B w w' := by
  have hF : ∀ k, Fence.wide.fn k := fun _ => trivial
  have hD : Fence.wide.depth.isSome = false := rfl
  have hu := Tryz.underlying35
  refine (callsIn_wide (n := 6)).1 ?_
  refine callsIn_of_wp_marks Tryz.func24 rfl trivial ?_ rfl
  simp only [Tryz.ntmps24, List.size_toArray, List.length_cons, List.length_nil, Nat.reduceAdd, Nat.reduceSub, Array.replicate_succ, Array.replicate_zero, List.push_toArray, List.append_toArray, List.nil_append, List.cons_append]
  have HB := Lib.hid hb
  have H := Lib.hid h
  have HW0 := Lib.hid hw0
  have HL := Lib.hid hLD
  have hBN := hb.lt
  clear hb h hw0 hLD
  gi_wp2_with (gi_at_call 23; refine (callsIn_wide.2 (callsIn_wide.1 (seq_calls _ _ _))).mono ?_; rintro e w' ⟨rfl, rfl⟩)
  obtain ⟨L, hL⟩ : ∃ L, cutsL 32 s = L := ⟨_, rfl⟩
  obtain ⟨N, hN⟩ : ∃ N, w.heap.size = N := ⟨_, rfl⟩
  obtain ⟨W0, hW0⟩ : ∃ W0, seqW s ⟨#[32]⟩ ((w.alloc (.cells #[.func (.func 25) #[] #[.pointer (some ⟨B, 0, none⟩)]] 52)).alloc (.cells #[.bool false] 4)) = W0 := ⟨_, rfl⟩
  obtain ⟨hs0, b0, b1, b2, b3, b4, hB0⟩ := span_Parse.seqW2 _ _ w _ _ N hN W0 hW0
  have hN' : N ≤ w.heap.size := by omega
  rw [hW0, hN]
  clear hW0
  refine wpIn_iter (gf := 67) (lb := #[.pointer (some ⟨N + 1 + 1 + 1, 0, none⟩), .pointer (some ⟨N + 1 + 1, 0, none⟩), .pointer (some ⟨N + 1 + 1 + 2, 0, none⟩)]) rfl (enters_of Tryz.func67 (by kernel_rfl) rfl)
    (Bs := fun r => r = N + 2) (Kp := fun X Y => Y.heap[N + 2]? = X.heap[N + 2]? ∧ Y.heap[N + 2 + 1]? = X.heap[N + 2 + 1]? ∧ Y.heap[N + 2 + 2]? = X.heap[N + 2 + 2]?) (xs := L.map encS)
    (fun W hW => by rw [← hL]; exact seq1_iter s 32 (N + 2) _ W hs (boxed_same (hW.block _ (by omega)) b2) (boxed_same (hW.block _ (by omega)) b3) (boxed_same (hW.block _ (by omega)) b4) (fun _ _ h => h))
    (fun r h => by omega) (fun h k => ⟨k.1.trans h.1, k.2.1.trans h.2.1, k.2.2.trans h.2.2⟩)
    (fun W l o o' hl ho _ => ⟨World.putObj_heap_other (by omega), World.putObj_heap_other (by omega), World.putObj_heap_other (by omega)⟩)
    (fun x hx => by obtain ⟨s, _, rfl⟩ := List.mem_map.1 hx; rfl)
    (fun i W => (∃ u acc, Boxed W B 38 u ∧ Kd.R k45 45 W (N + 5) (fun _ => True) u acc ∧ Hid (span_Parse.read k (L.drop i) acc = some (r, g))) ∧ Boxed W N 52 (.func (.func 25) #[] #[.pointer (some ⟨B, 0, none⟩)]) ∧ Boxed W (N + 1) 4 (.bool false) ∧ Fr B w W)
    (fun c W => c = .ret ∧ (∃ u, Boxed W B 38 u) ∧ Boxed W (N + 1) 4 (.bool false) ∧ Hid (g = false) ∧ Fr B w W)
    ((OwnC.ex fun u => OwnC.ex fun acc => (ownC_boxed (by omega)).and ((ownC_R (by intro r hr; omega)).and (ownC_pure _))).and ((ownC_boxed (by omega)).and ((ownC_boxed (by omega)).and (ownC_fr (by omega) (by intro r hr; omega)))))
    (fun c => (ownC_pure _).and ((OwnC.ex fun u => ownC_boxed (by omega)).and ((ownC_boxed (by omega)).and ((ownC_pure _).and (ownC_fr (by omega) (by intro r hr; omega))))))
    ⟨⟨_, [], boxed_same (hB0.block _ (by omega)) HB.out, Kd.R_nil _ _ _ _ _, Lib.hid (by rw [← hL]; exact H.out)⟩, b0, b1, Fr.of_below (hN.symm ▸ hB0)⟩
    (fun i a' _ => ∃ x, L[i]? = some x ∧ a' = { tmps := #[.string s, .func (.func 25) #[] #[.pointer (some ⟨B, 0, none⟩)], undef, .pointer (some ⟨N, 0, none⟩), .pointer (some ⟨N + 1, 0, none⟩), .string x, undef, undef, undef, undef, undef, undef, undef, undef, undef, undef, .string s, .func (.func 67) #[] #[.pointer (some ⟨N + 1 + 1 + 1, 0, none⟩), .pointer (some ⟨N + 1 + 1, 0, none⟩), .pointer (some ⟨N + 1 + 1 + 2, 0, none⟩)], .string x, undef, undef, undef, undef, undef, undef, undef, undef, undef, undef, undef, undef, undef, undef, undef, undef, undef, undef, undef, undef, undef, undef, undef, undef, undef, undef, undef, undef, undef, undef, undef, undef, undef, undef, undef, undef, undef, undef, undef, undef, undef, undef, undef, undef, undef, undef, undef, undef, undef, undef, undef, undef, undef, undef, undef, undef], defers := [] })
    (fun i a' s W W' row hs hg hr => hs) ?assign ?body ?done ?stop
  case assign =>
    intro l i x W K hx _ hK
    rw [List.getElem?_map] at hx
    obtain ⟨x0, hs, rfl⟩ := Option.map_eq_some_iff.1 hx
    unfold encS
    gi_wp2
    refine hK _ _ (KeepsFrom.refl _ _) ⟨rfl, rfl, rfl⟩ (by assumption) ⟨x0, hs, rfl⟩
  case body =>
    rintro l i x a' W hl ⟨rr, hrr⟩ hx ⟨⟨u, acc, hu1, hR, HG⟩, hbN, hb1, hFr⟩ ⟨x0, hx0, rfl⟩
    have hWs : N + 6 ≤ W.heap.size := by have := (Array.getElem?_eq_some_iff.1 hrr).1; omega
    have hdrop : L.drop i = x0 :: L.drop (i + 1) := by
      rw [List.drop_eq_getElem_cons (List.getElem?_eq_some_iff.1 hx0).1]
      rw [(List.getElem?_eq_some_iff.1 hx0).2]
    have hg := HG.out
    rw [hdrop] at hg
    simp only [span_Parse.read] at hg
    split at hg
    case isFalse => cases hg
    rename_i hacc
    obtain ⟨⟨bs, okw⟩, hw, hg2⟩ := Option.bind_eq_some_iff.1 hg
    have HA := Lib.hid hacc
    have HGO := Lib.hid hg2
    have HU := Lib.hid hu1
    have HR := Lib.hid hR
    have HFR := Lib.hid hFr
    have HN := Lib.hid hbN
    have H1 := Lib.hid hb1
    have hc0 := hbN.cell
    have hc1 := hb1.cell
    have hf1 := hb1.frozen
    clear hg hdrop hx HG hacc hg2 hu1 hR hFr hbN hb1 hrr
    have HX : Hid (∀ X, Below W.heap.size W X → Boxed X B 38 u ∧ Kd.R k45 45 X (N + 5) (fun _ => True) u acc ∧ Boxed X N 52 (.func (.func 25) #[] #[.pointer (some ⟨B, 0, none⟩)]) ∧ Boxed X (N + 1) 4 (.bool false) ∧ Fr B w X ∧ KeepsFrom W0.heap.size W X ∧ (X.heap[N + 2]? = W.heap[N + 2]? ∧ X.heap[N + 2 + 1]? = W.heap[N + 2 + 1]? ∧ X.heap[N + 2 + 2]? = W.heap[N + 2 + 2]?) ∧ W.heap.size ≤ X.heap.size) := Lib.hid (fun X hX =>
      ⟨boxed_same (hX.block _ HU.out.lt) HU.out, Kd.R_below HR.out hX, boxed_same (hX.block _ (by omega)) HN.out, boxed_same (hX.block _ (by omega)) H1.out, HFR.out.step hX HFR.out.size, ⟨hX.size, fun k o _ hk _ => (hX.block k (Array.getElem?_eq_some_iff.1 hk).1).trans hk⟩, ⟨hX.block _ (by omega), hX.block _ (by omega), hX.block _ (by omega)⟩, hX.size⟩)
    unfold span_Parse.word at hw
    by_cases he : x0.toList.isEmpty = true
    · rw [if_pos he] at hw
      have HW := Lib.hid hw
      clear hw
      gi_wp2
      exact span_Parse.same HW.out HGO.out ⟨KeepsFrom.refl _ _, ⟨rfl, rfl, rfl⟩, fun h => ⟨⟨u, HU.out, acc, HR.out, Lib.hid h⟩, HN.out, H1.out, HFR.out⟩⟩
    · rw [if_neg he] at hw
      have he' : x0.toList.isEmpty = false := by simpa using he
      clear he
      by_cases hst : x0 = ⟨#[42]⟩
      · rw [if_pos hst] at hw
        have HW := Lib.hid hw
        have hq : x0.toList = [42] := by rw [hst, ByteArray.toList_eq]
        clear hw hst he'
        have he' : (x0.toList == [42]) = true := by rw [hq]; rfl
        gi_wp2
        all_goals exact span_Parse.same HW.out HGO.out ⟨KeepsFrom.refl _ _, ⟨rfl, rfl, rfl⟩, fun h => ⟨⟨u, HU.out, acc, HR.out, Lib.hid h⟩, HN.out, H1.out, HFR.out⟩⟩
      · rw [if_neg hst] at hw
        have hq : (x0.toList == [42]) = false := by
          rw [beq_eq_false_iff_ne, ByteArray.toList_eq]
          exact fun e => hst (Go.Proofs.YtijooffpjfhidaaGreatDoor.Txt.ext e)
        have hq2 : ¬ x0.toList = [42] := by simpa using hq
        clear hst
        obtain ⟨t, ht, hw⟩ := Option.bind_eq_some_iff.1 hw
        have CT := Lib.hid (fun W => strings_HasPrefix.calls x0 ⟨#[126]⟩ t W ht)
        have hsz : 0 < x0.size := by
          rw [ByteArray.toList_eq] at he'
          cases hd : x0.data.toList with
          | nil => rw [hd] at he'; cases he'
          | cons c r => have : x0.data.toList.length = x0.size := Array.length_toList; rw [hd] at this; simp at this; omega
        obtain ⟨c, hc⟩ : ∃ c, x0[0]'hsz = c := ⟨_, rfl⟩
        have hbt : bt x0 0 = (c.toNat : Int) := by unfold bt; rw [dif_pos (by simpa using hsz), ← hc]; rfl
        have hsz1 : (1 : Int) ≤ x0.size := by omega
        have hc1' : ∀ n, (W.drewN n).cell? ⟨N + 1, 0, none⟩ = some (.bool false) := fun n => hc1
        obtain ⟨wd, hwd⟩ : ∃ wd, span_Parse.wide x0 t = wd := ⟨_, rfl⟩
        rw [hwd] at hw
        obtain ⟨⟨o1, o2⟩, ho, hw⟩ := Option.bind_eq_some_iff.1 hw
        have HO := Lib.hid ho
        have HW := Lib.hid hw
        have HWD := Lib.hid hwd
        have HBT := Lib.hid hbt
        clear hw ho hwd ht hbt
        gi_upto_region 6 with (first | (gi_at_call 42; refine (callsIn_wide.2 (CT.out _)).mono ?_; rintro e w' ⟨rfl, ⟨nd, rfl⟩⟩) | fail)
        gi_cut [8] from 27 (fun s8 wc => s8 = .bool wd ∧ wc = W.drewN nd)
        case first =>
          have HWE := HWD.out
          unfold span_Parse.wide at HWE
          rw [HBT.out] at HWE
          cases t with
          | true =>
            obtain rfl : true = wd := HWE
            gi_wp2; gi_meet; exact ⟨rfl, rfl⟩
          | false =>
            have h94 : ((c.toNat : Int) == 94) = wd := HWE
            clear HWE
            cases wd
            all_goals (gi_wp2; gi_meet; exact ⟨rfl, rfl⟩)
        case rest =>
          obtain ⟨rfl, rfl⟩ := hcut
          gi_upto_if 34 with fail
          gi_cut [6, 9] from 35 (fun s6 s9 wc => ∃ (op : Int) (rest : ByteArray) (nd : Nat), s6 = .int .i64 op ∧ s9 = .string rest ∧ Hid (span_Parse.sg x0 span_Print.signs op rest = some (o1, o2)) ∧ wc = W.drewN nd)
          case first =>
            cases wd with
            | true =>
              gi_wp2
              gi_region
              all_goals (gi_wp2; gi_meet; exact ⟨_, _, _, rfl, rfl, Lib.hid HO.out, rfl⟩)
            | false => gi_wp2; gi_meet; exact ⟨_, _, _, rfl, rfl, Lib.hid HO.out, rfl⟩
          case rest =>
            clear HO
            obtain ⟨op0, rest0, nd', rfl, rfl, HO, rfl⟩ := hcut
            have HLW : Hid (∀ n, LD (W.drewN n)) := Lib.hid (fun n => HL.out.below ((HW0.out.trans (HFR.out.below h0 HW0.out.size)).trans (pw_below_drewN (Below.refl _ _) n)))
            obtain ⟨g0, g1, g2, g3, g4, g5, g6, g7, g8, g9⟩ := span_Print.sig (HLW.out nd')
            gi_wp2
            gi_loopg [6, 9, 38] 5 (fun kq v6 v9 v38 W1 => ∃ (n : Nat) (op : Int) (rest : ByteArray), v38 = .int .i64 (n : Nat) ∧ v6 = .int .i64 op ∧ v9 = .string rest ∧ Hid (kq = 5 - n ∧ n ≤ 5) ∧ Hid (span_Parse.sg x0 (span_Print.signs.drop n) op rest = some (o1, o2)) ∧ Hid (Below W.heap.size W W1))
            case atStart => exact ⟨0, op0, rest0, rfl, rfl, rfl, Lib.hid ⟨rfl, Nat.zero_le _⟩, Lib.hid HO.out, Lib.hid (pw_below_drewN (Below.refl _ _) _)⟩
            case round =>
              clear g0 g1 g2 g3 g4 g5 g6 g7 g8 g9 HO
              obtain ⟨n, op, rest, rfl, rfl, rfl, Hn, Hs, HBV⟩ := hrel
              by_cases hn : n < 5
              · obtain ⟨y1, y2, hy, hidx⟩ := span_Parse.nth n hn
                have hg := Hs.out
                rw [hy] at hg
                simp only [span_Parse.sg] at hg
                obtain ⟨⟨cu, okc⟩, hcp, hg⟩ := Option.bind_eq_some_iff.1 hg
                have CC := Lib.hid (fun W => strings_CutPrefix.calls x0 y2 cu okc W hcp)
                have HG2 := Lib.hid hg
                have HY := Lib.hid hy
                have hnn : (n : Int) + 1 ≤ 5 := by omega
                clear hg hcp hy Hs
                cases okc with
                | false =>
                  gi_wp2_with (first | (gi_at_call 43; refine (callsIn_wide.2 (CC.out _)).mono ?_; rintro e w' ⟨rfl, ⟨nc, rfl⟩⟩) | fail)
                  gi_roundg (5 - (n + 1))
                  case measure => have := Hn.out.1; omega
                  case rel => exact ⟨n + 1, op, rest, by go_num, rfl, rfl, Lib.hid ⟨rfl, by omega⟩, Lib.hid (by simpa using HG2.out), Lib.hid (pw_below_drewN (HBV.out.alloc HBV.out.size _) _)⟩
                | true =>
                  by_cases hrx : rest = x0
                  · have hrq : (rest.toList == x0.toList) = true := by rw [hrx]; exact beq_self_eq_true _
                    have HRX := Lib.hid hrx
                    clear hrx
                    gi_wp2_with (first | (gi_at_call 43; refine (callsIn_wide.2 (CC.out _)).mono ?_; rintro e w' ⟨rfl, ⟨nc, rfl⟩⟩) | fail)
                    all_goals gi_roundg (5 - (n + 1))
                    case measure => have := Hn.out.1; omega
                    case rel => exact ⟨n + 1, y1, cu, by go_num, rfl, rfl, Lib.hid ⟨rfl, by omega⟩, Lib.hid (by have := HG2.out; rw [if_pos trivial, if_pos HRX.out] at this; exact this), Lib.hid (pw_below_drewN (HBV.out.alloc HBV.out.size _) _)⟩
                  · have hrq : (rest.toList == x0.toList) = false := by
                      rw [beq_eq_false_iff_ne, ByteArray.toList_eq, ByteArray.toList_eq]
                      exact fun e => hrx (Go.Proofs.YtijooffpjfhidaaGreatDoor.Txt.ext e)
                    have HRX := Lib.hid hrx
                    clear hrx
                    gi_wp2_with (first | (gi_at_call 43; refine (callsIn_wide.2 (CC.out _)).mono ?_; rintro e w' ⟨rfl, ⟨nc, rfl⟩⟩) | fail)
                    all_goals gi_roundg (5 - (n + 1))
                    case measure => have := Hn.out.1; omega
                    case rel => exact ⟨n + 1, op, rest, by go_num, rfl, rfl, Lib.hid ⟨rfl, by omega⟩, Lib.hid (by have := HG2.out; rw [if_pos trivial, if_neg HRX.out] at this; exact this), Lib.hid (pw_below_drewN (HBV.out.alloc HBV.out.size _) _)⟩
              · obtain rfl : n = 5 := by have := Hn.out.2; omega
                have hs5 : some (op, rest) = some (o1, o2) := Hs.out
                obtain ⟨rfl, rfl⟩ := Prod.mk.inj (Option.some.inj hs5)
                obtain ⟨⟨v0, v1, v2, v3, okv⟩, hv, hw⟩ := Option.bind_eq_some_iff.1 HW.out
                have CV := Lib.hid (fun W hl => version_Parse.calls k rest v0 v1 v2 v3 okv W hv hl)
                have HW3 := Lib.hid hw
                clear hs5 hv hw Hs HW
                cases okv with
                | false =>
                  gi_wp2_with (first | (gi_at_call 44; refine (callsIn_wide.2 (CV.out _ ?hl)).mono ?_; (case hl => exact (HLW.out 0).below HBV.out); rintro e w' ⟨rfl, hbe⟩; have HBE := Lib.hid (HBV.out.trans (hbe.mono HBV.out.size)); obtain ⟨_, _, q3, q4, _, _, _, qz⟩ := HX.out w' HBE.out; have hc0' := (q3.alloc (Obj.cells #[.int .i64 v0, .int .i64 v1, .int .i64 v2, .string v3] 35)).cell; have hc1' := (q4.alloc (Obj.cells #[.int .i64 v0, .int .i64 v1, .int .i64 v2, .string v3] 35)).cell; have hf1' := (q4.alloc (Obj.cells #[.int .i64 v0, .int .i64 v1, .int .i64 v2, .string v3] 35)).frozen; clear q3 q4 hbe) | fail)
                  obtain ⟨x1, _, _, x4, x5, x6, _, _⟩ := HX.out _ (HBE.out.alloc HBE.out.size (Obj.cells #[.int .i64 v0, .int .i64 v1, .int .i64 v2, .string v3] 35))
                  have hgf : g = false := by
                    have h3 := HW3.out
                    rw [if_pos trivial] at h3
                    obtain ⟨rfl, rfl⟩ := Prod.mk.inj (Option.some.inj h3)
                    have h4 := HGO.out
                    rw [if_pos rfl] at h4
                    exact (Prod.mk.inj (Option.some.inj h4)).2.symm
                  exact ⟨kf_set x6 _ _, rfl, ⟨u, x1.other (by omega) _⟩, x4.set _, Lib.hid hgf, x5.step (bl_set (Below.refl N _) _ _ _ (by omega)) (by omega)⟩
                | true =>
                  gi_upto_if 69 with (first | (gi_at_call 44; refine (callsIn_wide.2 (CV.out _ ?hl)).mono ?_; (case hl => exact (HLW.out 0).below HBV.out); rintro e w' ⟨rfl, hbe⟩; have HBE := Lib.hid (HBV.out.trans (hbe.mono HBV.out.size)); obtain ⟨_, _, q3, q4, _, _, _, qz⟩ := HX.out w' HBE.out; have hc0' := (q3.alloc (Obj.cells #[.int .i64 v0, .int .i64 v1, .int .i64 v2, .string v3] 35)).cell; have hc1' := (q4.alloc (Obj.cells #[.int .i64 v0, .int .i64 v1, .int .i64 v2, .string v3] 35)).cell; have hf1' := (q4.alloc (Obj.cells #[.int .i64 v0, .int .i64 v1, .int .i64 v2, .string v3] 35)).frozen; clear q3 q4 hbe) | (gi_at_call 25; ((have hx := HX.out (w'.alloc (Obj.cells #[.int .i64 v0, .int .i64 v1, .int .i64 v2, .string v3] 35)) (HBE.out.alloc HBE.out.size _)); refine (callsIn_wide.2 (span_Parse.hand op v0 v1 v2 v3 acc _ B (N + 5) u hx.1 hx.2.1 ?p1 ?p2 ?p3)).mono ?_; (case p1 => omega); (case p2 => rw [World.size_alloc]; omega); (case p3 => have := HA.out; omega); rintro e w8 ⟨⟨q, rfl⟩, ⟨u2, hb2, hr2⟩, hfh⟩; have HB2 := Lib.hid hb2; have HR2 := Lib.hid hr2; have HF2 := Lib.hid (span_Parse.after (w := w) (W0 := W0) (B := B) (N := N) hBN hN hs0 hx.2.2 hWs qz hfh); obtain ⟨q3, q4, _, _, _, qy, qv⟩ := HF2.out; have hc0'' := q3.cell; have hc1'' := q4.cell; have hf1'' := q4.frozen; have n0 := span_Holds.cells qv 0 _ rfl; have n1 := span_Holds.cells qv 1 _ rfl; have n2 := span_Holds.cells qv 2 _ rfl; have n3 := span_Holds.cells qv 3 _ rfl; clear hx hb2 hr2 hfh q3 q4 qv)) | fail)
                  have h3 := HW3.out
                  rw [if_neg (by simp)] at h3
                  clear HW3
                  cases wd with
                  | true =>
                    rw [if_pos rfl] at h3
                    obtain ⟨⟨z0, z1, z2, z3⟩, hz, h3⟩ := Option.bind_eq_some_iff.1 h3
                    obtain ⟨hbs, rfl⟩ := Prod.mk.inj (Option.some.inj h3)
                    have CA := Lib.hid (fun W => span_above.calls v0 v1 v2 v3 t z0 z1 z2 z3 W hz)
                    have HBS := Lib.hid hbs
                    clear h3 hz hbs
                    gi_wp2
                    gi_region_with (first | (gi_at_call 45; refine (callsIn_wide.2 (CA.out _)).mono ?_; rintro e w9 ⟨rfl, hbe9⟩; have hb9 := (show Below w8.heap.size w8 _ from (by repeat (first | exact Below.refl _ _ | apply pw_below_drewN | apply below_drew1))).trans hbe9; have HB9 := Lib.hid hb9; have hc9 := (boxed_same (hb9.block _ (by omega)) HF2.out.1).cell; clear hbe9 hb9) | (gi_at_call 25; refine (callsIn_wide.2 (span_Parse.hand 2 z0 z1 z2 z3 (acc ++ [⟨op, ⟨v0, v1, v2, v3⟩⟩]) _ B (N + 5) u2 (boxed_same (HB9.out.block _ HB2.out.lt) HB2.out) (Kd.R_below HR2.out HB9.out) ?p1 ?p2 ?p3)).mono ?_; (case p1 => omega); (case p2 => have := HB9.out.size; omega); (case p3 => have := HA.out; rw [List.length_append, List.length_singleton]; omega); rintro e w10 ⟨⟨q', rfl⟩, ⟨u3, hb3, hr3⟩, hfh3⟩; have HB3 := Lib.hid hb3; have HR3 := Lib.hid hr3; have HF3 := Lib.hid (span_Parse.after2 hBN hN hs0 HF2.out HB9.out hfh3); clear hb3 hr3 hfh3) | fail)
                    all_goals exact span_Parse.fin HBS.out HGO.out (by simp) (fun hgo => ⟨HF3.out.2.2.2.1, HF3.out.2.2.2.2, ⟨u3, _, HB3.out, HR3.out, Lib.hid hgo⟩, HF3.out.1, HF3.out.2.1, HF3.out.2.2.1⟩)
                  | false =>
                    rw [if_neg (by decide)] at h3
                    obtain ⟨hbs, rfl⟩ := Prod.mk.inj (Option.some.inj h3)
                    have HBS := Lib.hid hbs
                    clear h3 hbs
                    gi_wp2
                    have hF2 := HF2.out
                    exact span_Parse.fin HBS.out HGO.out rfl (fun hgo => ⟨hF2.2.2.2.1, hF2.2.2.2.2.1, ⟨u2, _, HB2.out, HR2.out, Lib.hid hgo⟩, hF2.1, hF2.2.1, hF2.2.2.1⟩)
  case done =>
    rintro D W hD' ⟨⟨u, acc, hu1, hR, HG⟩, hbN, hb1, hFr⟩ hK
    have hWs : N + 5 ≤ D := by omega
    have hDl := (Array.getElem?_eq_some_iff.1 hK).1
    have hg := HG.out
    rw [List.length_map, List.drop_length] at hg
    obtain ⟨rfl, rfl⟩ := Prod.mk.inj (Option.some.inj hg)
    have HU := Lib.hid hu1
    have HR := Lib.hid hR
    have HFR := Lib.hid hFr
    have H1 := Lib.hid hb1
    have hc1 := hb1.cell
    have hf1 := hb1.frozen
    clear hg HG hu1 hR hFr hbN hb1
    gi_wp2
    have hK' := (same_set (c := N + 1) (o := 0) (v := .bool true) (X := W) (W := W) (b := D) rfl (by omega)).trans hK
    refine ⟨by simp, .inl ⟨_, _, rfl, run_takeDeferred hK', ?_⟩⟩
    have p1 := (boxed_same (World.putObj_heap_other (o := .deferred none) (by omega : N + 1 ≠ D)) (H1.out.set (.bool true))).cell
    have e1 : ∀ b, b ≠ N + 1 → b ≠ D → ((W.setCell ⟨N + 1, 0, none⟩ (.bool true)).putObj D (.deferred none)).heap[b]? = W.heap[b]? := fun b h1 h2 => (World.putObj_heap_other h2).trans (same_set (X := W) (W := W) rfl h1)
    refine ⟨.bool true, by simp [results, Tryz.f24, go_sem, p1], rfl, ⟨u, boxed_same (e1 B (by omega) (by omega)) HU.out, ?_⟩, HFR.out.step (bl_putObj (bl_set (Below.refl N W) _ _ _ (by omega)) _ (by omega) (by simp; omega) hK') (by omega)⟩
    refine Kd.R_lower (base := N + 5) (Kd.R_mono (Kd.R_step (Kd.R_bound HR.out) (fun k hk _ => e1 k (by omega) (fun ek => ?_))) (fun _ _ => trivial)) (by omega)
    obtain ⟨_, _, _, q, _, cells, hq⟩ := hk
    rw [ek, hK] at hq; cases hq
  case stop =>
    rintro D c W hD' ⟨rfl, ⟨u, hu1⟩, hb1, HGF, hFr⟩ hK
    obtain rfl := HGF.out
    have hDl := (Array.getElem?_eq_some_iff.1 hK).1
    have HU := Lib.hid hu1
    have HFR := Lib.hid hFr
    have H1 := Lib.hid hb1
    clear hu1 hFr hb1
    gi_wp2
    refine ⟨by simp, .inl ⟨_, _, rfl, run_takeDeferred hK, ?_⟩⟩
    have p1 := (boxed_same (World.putObj_heap_other (o := .deferred none) (by omega : N + 1 ≠ D)) H1.out).cell
    exact ⟨.bool false, by simp [results, Tryz.f24, go_sem, p1], rfl, ⟨u, boxed_same (World.putObj_heap_other (by omega)) HU.out⟩, HFR.out.step (bl_putObj (Below.refl N W) _ (by omega) (by omega) hK) (by omega)⟩
end
end Go.Proofs.YtijooffpjfhidaaGreatDoor.G
end
section
namespace Go.Proofs.YtijooffpjfhidaaGreatDoor.G
open Go.RowKit Go.Proofs.YtijooffpjfhidaaGreatDoorW.PrintWords Go.Proofs.YtijooffpjfhidaaGreatDoorW.PrintLast Go.Proofs.YtijooffpjfhidaaGreatDoorW.PrintMore
attribute [local go_sem] Go.Proofs.YtijooffpjfhidaaGreatDoor.Aid.gtr_string max2_int min2_int max_two min_two max_three min_three max_four min_four
set_option linter.unusedVariables false
set_option linter.unusedSimpArgs false
section
open Lib Go.Proofs.YtijooffpjfhidaaGreatDoor.Rng Go.Proofs.YtijooffpjfhidaaGreatDoor.Seq Go.Proofs.YtijooffpjfhidaaGreatDoor.App
attribute [local go_sem] Oper.semAt_some
theorem span_Parse.fr_at {W w8 : World} {o : Obj} (h : Fr W.heap.size (W.alloc o) w8) (k : Nat) (hk : k < W.heap.size) : w8.heap[k]? = W.heap[k]? := (h.block k (by rw [World.size_alloc]; omega) (by omega)).trans (Below.heap_alloc W o k hk)
theorem span_Parse.fr_size {W w8 : World} {o : Obj} (h : Fr W.heap.size (W.alloc o) w8) : W.heap.size ≤ w8.heap.size := by have := h.size; rw [World.size_alloc] at this; omega
theorem span_Parse.fr_keeps {W w8 : World} {o : Obj} {B : Nat} (h : Fr W.heap.size (W.alloc o) w8) : KeepsFrom B W w8 := ⟨span_Parse.fr_size h, fun k o _ hk _ => (span_Parse.fr_at h k (Array.getElem?_eq_some_iff.1 hk).1).trans hk⟩
theorem span_Parse.fr_below {W w8 : World} {o : Obj} {n : Nat} (h : Fr W.heap.size (W.alloc o) w8) (hn : n ≤ W.heap.size) : Below n W w8 := ⟨h.os, h.tape, h.output, span_Parse.fr_size h, fun k hk => span_Parse.fr_at h k (by omega)⟩
theorem span_Parse.flat {W : World} {base : Nat} {u : Value} {bs : List S45} (h : Kd.R k45 45 W base (fun _ => True) u bs) : Kd.R k45 45 W base (fun k_ => some k_ = u.ownBlock) u bs :=
  Kd.R_flat (fun h => by obtain rfl := k45_openM h; exact k45_mkM _ _ _ _) h (fun k hk _ => hk.symm)
theorem span_Parse.step {N B0 : Nat} {w W w8 w1 : World} {o : Obj} {v v1 x y : Value} {all all' : List (List S45)} (hWs : N + 7 ≤ W.heap.size) (hB0 : N + 6 ≤ B0) (hgN : 3 < N)
    (HV : Boxed W (N + 2) 24 v) (HS : Kd.S (Kd.slice 45 k45) 38 W (N + 6) (fun _ => True) v all) (HN : Boxed W N 24 x) (H1 : Boxed W (N + 1) 4 y) (HB : Below N w W) (HFR : Fr W.heap.size (W.alloc o) w8) (hg : w8.grownBy w1 v.ownBlock)
    (ho : Kd.S (Kd.slice 45 k45) 38 w1 (N + 6) (fun _ => True) v1 all') :
    KeepsFrom B0 W (w1.setCell ⟨N + 2, 0, none⟩ v1) ∧ ((w1.setCell ⟨N + 2, 0, none⟩ v1).heap[N + 3]? = W.heap[N + 3]? ∧ (w1.setCell ⟨N + 2, 0, none⟩ v1).heap[N + 3 + 1]? = W.heap[N + 3 + 1]? ∧ (w1.setCell ⟨N + 2, 0, none⟩ v1).heap[N + 3 + 2]? = W.heap[N + 3 + 2]? ∧ (w1.setCell ⟨N + 2, 0, none⟩ v1).cell? ⟨3, 0, none⟩ = W.cell? ⟨3, 0, none⟩) ∧
      (Boxed (w1.setCell ⟨N + 2, 0, none⟩ v1) (N + 2) 24 v1 ∧ Kd.S (Kd.slice 45 k45) 38 (w1.setCell ⟨N + 2, 0, none⟩ v1) (N + 6) (fun _ => True) v1 all') ∧ Boxed (w1.setCell ⟨N + 2, 0, none⟩ v1) N 24 x ∧ Boxed (w1.setCell ⟨N + 2, 0, none⟩ v1) (N + 1) 4 y ∧ Below N w (w1.setCell ⟨N + 2, 0, none⟩ v1) := by
  have h8 := span_Parse.fr_size HFR
  have h1 := hg.size
  have hat : ∀ k, k < W.heap.size → some k ≠ v.ownBlock → k ≠ N + 2 → (w1.setCell ⟨N + 2, 0, none⟩ v1).heap[k]? = W.heap[k]? := fun k hk hn h2 =>
    (Below.heap_setCell w1 ⟨N + 2, 0, none⟩ v1 k h2).trans ((hg.block k (by omega) hn).trans (span_Parse.fr_at HFR k hk))
  have hlow : ∀ k, k < N + 6 → some k ≠ v.ownBlock := fun k hk e => by have := Kd.S_base HS k e.symm; omega
  have hs1 : W.heap.size ≤ (w1.setCell ⟨N + 2, 0, none⟩ v1).heap.size := Nat.le_trans (by omega) (KeepsWalks.setCell w1 ⟨N + 2, 0, none⟩ v1).size
  have hv1 : Boxed w1 (N + 2) 24 v := (boxed_same (span_Parse.fr_at HFR _ (by omega)) HV).kept hg (hlow _ (by omega))
  refine ⟨⟨hs1, fun k o' hk ho' hc => (hat k (Array.getElem?_eq_some_iff.1 ho').1 (fun e => ?_) (by omega)).trans ho'⟩, ⟨hat _ (by omega) (hlow _ (by omega)) (by omega), hat _ (by omega) (hlow _ (by omega)) (by omega), hat _ (by omega) (hlow _ (by omega)) (by omega), World.cell?_of_block (w := W) (hat _ (by show 3 < _; omega) (hlow _ (by show 3 < _; omega)) (by show 3 ≠ _; omega))⟩,
    ⟨hv1.set v1, Kd.S_set ho hv1 (by decide) 0 _⟩, boxed_same (hat _ (by omega) (hlow _ (by omega)) (by omega)) HN, boxed_same (hat _ (by omega) (hlow _ (by omega)) (by omega)) H1, ?_⟩
  · obtain ⟨cells, hc'⟩ := Kd.S_typed HS k e.symm
    rw [hc'] at ho'; cases ho'; cases hc
  · exact HB.trans ⟨hg.os.trans HFR.os, hg.tape.trans HFR.tape, hg.output.trans HFR.output, hs1, fun k hk => hat k (by omega) (hlow k (by omega)) (by omega)⟩
set_option maxRecDepth 100000 in
set_option maxHeartbeats 8000000 in
theorem span_Parse.calls (k : Nat) (a0 : ByteArray) (r1 : List (List (S45))) (r2 : Bool) (w : World) (h : span_Parse.f k a0 = some (r1, r2)) (hLD : LD w) :
    Calls Tryz.prog 12 #[.string a0] w fun e w' => ∃ v0_ : Value, e = .returned (.tuple #[.agg #[v0_], .bool r2]) ∧ Kd.S (Kd.slice 45 k45) 38 w' w.heap.size (fun _ => True) v0_ r1 ∧ Below w.heap.size w w' := by
  unfold span_Parse.f at h
  split at h
  case isFalse => cases h
  rename_i hsz
  have hF : ∀ k, Fence.wide.fn k := fun _ => trivial
  have hD : Fence.wide.depth.isSome = false := rfl
  have hu := Tryz.underlying24
  obtain ⟨m, hm⟩ := hLD.mx
  have hgN : 3 < w.heap.size := cell?_lt hm
  refine (callsIn_wide (n := 6)).1 ?_
  refine callsIn_of_wp_marks Tryz.func12 rfl trivial ?_ rfl
  simp only [Tryz.ntmps12, List.size_toArray, List.length_cons, List.length_nil, Nat.reduceAdd, Nat.reduceSub, Array.replicate_succ, Array.replicate_zero, List.push_toArray, List.append_toArray, List.nil_append, List.cons_append]
  have H := Lib.hid h
  have HL := Lib.hid hLD
  have HM := Lib.hid hm
  clear h hLD hm
  gi_wp2_with (gi_at_call 23; refine (callsIn_wide.2 (callsIn_wide.1 (seq_calls _ _ _))).mono ?_; rintro e w' ⟨rfl, rfl⟩)
  obtain ⟨L, hL⟩ : ∃ L, cutsD a0 = L := ⟨_, rfl⟩
  obtain ⟨N, hN⟩ : ∃ N, w.heap.size = N := ⟨_, rfl⟩
  obtain ⟨W0, hW0⟩ : ∃ W0, seqW a0 ⟨#[124, 124]⟩ (((w.alloc (.cells #[.slice none 0 0] 24)).alloc (.cells #[.bool false] 4)).alloc (.cells #[.slice none 0 0] 24)) = W0 := ⟨_, rfl⟩
  obtain ⟨hs0, b0, b1, b2, b3, b4, b5, hB0⟩ := seqW_facts _ _ w _ _ _ N hN W0 hW0
  have hN' : N ≤ w.heap.size := by omega
  rw [hW0, hN]
  clear hW0
  have hKm : ∀ (X Y : World), Below N X Y → Y.cell? ⟨3, 0, none⟩ = X.cell? ⟨3, 0, none⟩ := fun X Y hb => hb.cell (p := ⟨3, 0, none⟩) (by show 3 < N; omega)
  have HKM := Lib.hid hKm
  clear hKm
  refine wpIn_iter (gf := 67) (lb := #[.pointer (some ⟨N + 1 + 1 + 1 + 1, 0, none⟩), .pointer (some ⟨N + 1 + 1 + 1, 0, none⟩), .pointer (some ⟨N + 1 + 1 + 1 + 2, 0, none⟩)]) rfl (enters_of Tryz.func67 (by kernel_rfl) rfl)
    (Bs := fun r => r = N + 3) (Kp := fun X Y => Y.heap[N + 3]? = X.heap[N + 3]? ∧ Y.heap[N + 3 + 1]? = X.heap[N + 3 + 1]? ∧ Y.heap[N + 3 + 2]? = X.heap[N + 3 + 2]? ∧ Y.cell? ⟨3, 0, none⟩ = X.cell? ⟨3, 0, none⟩) (xs := L.map encS)
    (fun W hW => by rw [← hL]; exact seq2_iter a0 m (N + 3) _ W hsz (boxed_same (hW.block _ (by omega)) b3) (boxed_same (hW.block _ (by omega)) b4) (boxed_same (hW.block _ (by omega)) b5) ((HKM.out _ _ (hW.mono (by omega))).trans ((HKM.out _ _ hB0).trans HM.out)) (by omega) (fun _ _ h => h))
    (fun r h => by omega) (fun h k => ⟨k.1.trans h.1, k.2.1.trans h.2.1, k.2.2.1.trans h.2.2.1, k.2.2.2.trans h.2.2.2⟩)
    (fun W l o o' hl ho _ => ⟨World.putObj_heap_other (by omega), World.putObj_heap_other (by omega), World.putObj_heap_other (by omega), World.cell?_of_block (w := W) (World.putObj_heap_other (by show 3 ≠ l; omega))⟩)
    (fun x hx => by obtain ⟨s, _, rfl⟩ := List.mem_map.1 hx; rfl)
    (fun i W => (∃ v all, Boxed W (N + 2) 24 v ∧ Kd.S (Kd.slice 45 k45) 38 W (N + 6) (fun _ => True) v all ∧ Hid (span_Parse.go k (L.drop i) all = some (r1, r2))) ∧ Boxed W N 24 (.slice none 0 0) ∧ Boxed W (N + 1) 4 (.bool false) ∧ Below N w W)
    (fun c W => c = .ret ∧ Boxed W N 24 (.slice none 0 0) ∧ Boxed W (N + 1) 4 (.bool false) ∧ Hid (r1 = [] ∧ r2 = false) ∧ Below N w W)
    ((OwnC.ex fun v => OwnC.ex fun all => (ownC_boxed (by omega)).and ((ownC_S (by intro r hr; omega)).and (ownC_pure _))).and ((ownC_boxed (by omega)).and ((ownC_boxed (by omega)).and (ownC_below hN' (by omega) (by intro r hr; omega)))))
    (fun c => (ownC_pure _).and ((ownC_boxed (by omega)).and ((ownC_boxed (by omega)).and ((ownC_pure _).and (ownC_below hN' (by omega) (by intro r hr; omega))))))
    ⟨⟨_, [], b2, Kd.S_nil _ _ _ _ _, Lib.hid (by rw [← hL]; exact H.out)⟩, b0, b1, hB0⟩
    (fun i a' _ => ∃ x, L[i]? = some x ∧ a' = { tmps := #[.string a0, undef, .pointer (some ⟨N, 0, none⟩), .pointer (some ⟨N + 1, 0, none⟩), .pointer (some ⟨N + 1 + 1, 0, none⟩), .string x, undef, .string a0, .func (.func 67) #[] #[.pointer (some ⟨N + 1 + 1 + 1 + 1, 0, none⟩), .pointer (some ⟨N + 1 + 1 + 1, 0, none⟩), .pointer (some ⟨N + 1 + 1 + 1 + 2, 0, none⟩)], .string x, undef, undef, undef, undef, undef, undef, undef, undef, undef, undef, undef, undef, undef, undef, undef, undef], defers := [] })
    (fun i a' s W W' row hs hg hr => hs) ?assign ?body ?done ?stop
  case assign =>
    intro l i x W K hx _ hK
    rw [List.getElem?_map] at hx
    obtain ⟨x0, hs, rfl⟩ := Option.map_eq_some_iff.1 hx
    unfold encS
    gi_wp2
    refine hK _ _ (KeepsFrom.refl _ _) ⟨rfl, rfl, rfl, rfl⟩ (by assumption) ⟨x0, hs, rfl⟩
  case body =>
    rintro l i x a' W hl ⟨rr, hrr⟩ hx ⟨⟨v, all, hv, hS, HG⟩, hbN, hb1, hBl⟩ ⟨x0, hx0, rfl⟩
    have hWs : N + 7 ≤ W.heap.size := by have := (Array.getElem?_eq_some_iff.1 hrr).1; omega
    have hdrop : L.drop i = x0 :: L.drop (i + 1) := by
      rw [List.drop_eq_getElem_cons (List.getElem?_eq_some_iff.1 hx0).1]
      rw [(List.getElem?_eq_some_iff.1 hx0).2]
    have hg := HG.out
    rw [hdrop] at hg
    simp only [span_Parse.go] at hg
    split at hg
    case isFalse => cases hg
    rename_i hxs
    split at hg
    case isFalse => cases hg
    rename_i hal
    obtain ⟨⟨bs, okr⟩, hr, hg2⟩ := Option.bind_eq_some_iff.1 hg
    have HGO := Lib.hid hg2
    have HA := Lib.hid hal
    have hS' := hS
    obtain ⟨A, c, rfl⟩ := Kd.S_slice hS'
    have CR := Lib.hid (span_Parse.read_calls k x0 bs okr (W.alloc (.cells #[.slice none 0 0] 38)) w W.heap.size hr hxs (Boxed.new W _ _) (hN.symm ▸ hBl.alloc (by omega) _) (by omega) HL.out)
    have HV := Lib.hid hv
    have HS := Lib.hid hS
    have HN := Lib.hid hbN
    have H1 := Lib.hid hb1
    have HB := Lib.hid hBl
    have hv2 := hv.cell
    clear hg hg2 hdrop hx HG hal hr hxs hv hS hS' hbN hb1 hBl hrr
    cases okr with
    | false =>
      gi_wp2_with (first | (gi_at_call 24; refine (callsIn_wide.2 CR.out).mono ?_; rintro e w8 ⟨rfl, ⟨u, hu8, _⟩, hfr⟩; have h8 := hfr.size; rw [World.size_alloc] at h8; have HFR := Lib.hid hfr; have hq0 := boxed_same (hfr.block N (by rw [World.size_alloc]; omega) (by omega)) (HN.out.alloc _); have hq1 := boxed_same (hfr.block (N + 1) (by rw [World.size_alloc]; omega) (by omega)) (H1.out.alloc _); have HQ0 := Lib.hid hq0; have HQ1 := Lib.hid hq1; have c0 := hq0.cell; have f0 := hq0.frozen; have c1 := hq1.cell; have f1 := hq1.frozen; clear hu8 hfr hq0 hq1) | fail)
      have hgf : r1 = [] ∧ r2 = false := by
        have h4 := HGO.out
        rw [if_pos trivial] at h4
        obtain ⟨rfl, rfl⟩ := Prod.mk.inj (Option.some.inj h4)
        exact ⟨rfl, rfl⟩
      exact ⟨kf_set (kf_set (span_Parse.fr_keeps HFR.out) _ _) _ _, rfl, (HQ0.out.set _).other (by omega) _, (HQ1.out.other (by omega) _).set _, Lib.hid hgf, bl_set (bl_set (HB.out.trans (span_Parse.fr_below HFR.out (by omega))) _ _ _ (by omega)) _ _ _ (by omega)⟩
    | true =>
      gi_wp2_with (first | (gi_at_call 24; refine (callsIn_wide.2 CR.out).mono ?_; rintro e w8 ⟨rfl, ⟨u, hu8, hr8⟩, hfr⟩; have h8 := hfr.size; rw [World.size_alloc] at h8; have hR8 := hr8 rfl; have hR8' := hR8; obtain ⟨Au, cu, rfl⟩ := Kd.R_slice hR8'; have HFR := Lib.hid hfr; have HR8 := Lib.hid hR8; have hq2 := boxed_same (hfr.block (N + 2) (by rw [World.size_alloc]; omega) (by omega)) (HV.out.alloc _); have HQ2 := Lib.hid hq2; have HU8 := Lib.hid hu8; have c2 := hq2.cell; have c3 := hu8.cell; clear hr8 hR8 hR8' hu8 hfr hq2) | (gi_at_builtin; refine S_append_in (Kd.slice 45 k45) (N + 6) ?a1 (.tmp 16) (.tmp 18) 22 38 (.slice none 0 0) 24 ?a2 ?a3 ?a4 ?a5 ?a6 ?a7 (.slice A all.length c) all bs [.slice Au bs.length cu] (fun _ => True) (fun k_ => some k_ = (Value.slice Au bs.length cu).ownBlock) ?aY ?aX ?aP ?aK ?aF ?aO ?aS ?aL ?_; (case a1 => rfl); (case a2 => rfl); (case a3 => exact Tryz.underlying22); (case a4 => exact info38); (case a5 => rfl); (case a6 => decide); (case a7 => decide); (case aY => rfl); (case aX => first | rfl | (rw [World.size_alloc]; rfl)); (case aP => exact ⟨_, rfl, Kd.R_lower (span_Parse.flat HR8.out) (by rw [World.size_alloc]; omega)⟩); (case aK => exact fun k_ hk => ⟨trivial, fun e => by have h1 := Kd.S_lt HS.out k_ e.symm; have h2 := Kd.R_base HR8.out k_ hk.symm; rw [World.size_alloc] at h2; omega⟩); (case aF => exact (fun _ _ => trivial)); (case aO => exact Kd.S_mono (Kd.S_step (Kd.S_bound HS.out) (fun k_ hk _ => span_Parse.fr_at HFR.out k_ hk.2.2.1)) (fun k_ hk => ⟨trivial, fun e => by have h1 := hk.2.2.1; have h2 := Kd.R_base HR8.out k_ e.symm; rw [World.size_alloc] at h2; omega⟩)); (case aS => omega); (case aL => have := HA.out; omega); intro v1 w1 ho hg hat; have hw1 := HQ2.out.kept hg (Kd.S_ne HS.out HV.out (by decide)); have ho' := ho; obtain ⟨A1, c1, rfl⟩ := Kd.S_slice ho'; have HO := Lib.hid ho; have HG1 := Lib.hid hg; have c4 := hw1.cell; have f4 := hw1.frozen; clear ho ho' hg hat hw1) | fail)
      have hO := HO.out
      rw [List.length_append, List.length_singleton] at hO
      obtain ⟨x1, x2, x3, x4, x5, x6⟩ := span_Parse.step (B0 := W0.heap.size) hWs (by omega) (by omega) HV.out HS.out HN.out H1.out HB.out HFR.out HG1.out hO
      have h4 := HGO.out
      rw [if_neg (by simp)] at h4
      exact ⟨x1, x2, ⟨_, _, x3.1, x3.2, Lib.hid h4⟩, x4, x5, x6⟩
  case done =>
    rintro D W hD' ⟨⟨v, all, hv, hS, HG⟩, hbN, hb1, hBl⟩ hK
    have hDl := (Array.getElem?_eq_some_iff.1 hK).1
    have hg := HG.out
    rw [List.length_map, List.drop_length] at hg
    obtain ⟨g, hr, hg2⟩ := Option.bind_eq_some_iff.1 hg
    obtain ⟨A, c, rfl, hc, hC⟩ := Kd.S_reads hS
    have CR := Lib.hid (span_right.calls k A c all g W hC hc hr (HL.out.below (hN.symm ▸ hBl)))
    have HV := Lib.hid hv
    have HS := Lib.hid hS
    have HN := Lib.hid hbN
    have H1 := Lib.hid hb1
    have HB := Lib.hid hBl
    have HG2 := Lib.hid hg2
    have hv2 := hv.cell
    clear hg hg2 HG hr hC hc hv hS hbN hb1 hBl
    have HX : Hid (∀ X, Below W.heap.size W X → ∀ y, X.heap[D]? = some (.deferred (some [])) ∧ ((X.setCell ⟨N, 0, none⟩ y).setCell ⟨N + 1, 0, none⟩ (.bool g)).heap[D]? = some (.deferred (some [])) ∧ Boxed (((X.setCell ⟨N, 0, none⟩ y).setCell ⟨N + 1, 0, none⟩ (.bool g)).putObj D (.deferred none)) N 24 y ∧ Boxed (((X.setCell ⟨N, 0, none⟩ y).setCell ⟨N + 1, 0, none⟩ (.bool g)).putObj D (.deferred none)) (N + 1) 4 (.bool g) ∧ Kd.S (Kd.slice 45 k45) 38 (((X.setCell ⟨N, 0, none⟩ y).setCell ⟨N + 1, 0, none⟩ (.bool g)).putObj D (.deferred none)) N (fun _ => True) (.slice A all.length c) all ∧ Below N w (((X.setCell ⟨N, 0, none⟩ y).setCell ⟨N + 1, 0, none⟩ (.bool g)).putObj D (.deferred none))) := Lib.hid (fun X hX y => by
      have hKX := (hX.block _ hDl).trans hK
      have hKY := (same_set (c := N + 1) (o := 0) (v := .bool g) (X := X.setCell ⟨N, 0, none⟩ y) (W := X.setCell ⟨N, 0, none⟩ y) (b := D) rfl (by omega)).trans ((same_set (c := N) (o := 0) (v := y) (X := X) (W := X) (b := D) rfl (by omega)).trans hKX)
      have e1 : ∀ b, b ≠ N → b ≠ N + 1 → b ≠ D → b < W.heap.size → (((X.setCell ⟨N, 0, none⟩ y).setCell ⟨N + 1, 0, none⟩ (.bool g)).putObj D (.deferred none)).heap[b]? = W.heap[b]? := fun b h1 h2 h3 h4 => (World.putObj_heap_other h3).trans ((same_set (X := X.setCell ⟨N, 0, none⟩ y) (W := X.setCell ⟨N, 0, none⟩ y) rfl h2).trans ((same_set (X := X) (W := X) rfl h1).trans (hX.block _ h4)))
      have hxN := boxed_same (hX.block N (by omega)) HN.out
      have hx1 := boxed_same (hX.block (N + 1) (by omega)) H1.out
      refine ⟨hKX, hKY, boxed_same (World.putObj_heap_other (by omega)) ((hxN.set y).other (by omega) _), boxed_same (World.putObj_heap_other (by omega)) ((hx1.other (by omega) _).set _), ?_, bl_putObj (bl_set (bl_set (HB.out.trans (hX.mono (by omega))) _ _ _ (by omega)) _ _ _ (by omega)) _ (by omega) (by have := hX.size; simp; omega) hKY⟩
      refine Kd.S_lower (base := N + 6) (Kd.S_mono (Kd.S_step (Kd.S_bound HS.out) (fun k hk hl => e1 k (by omega) (by omega) (fun ek => ?_) hl)) (fun _ _ => trivial)) (by omega)
      obtain ⟨_, _, _, q, _, cells, hq⟩ := hk
      rw [ek, hK] at hq; cases hq)
    cases g with
    | true =>
      gi_wp2_with (first | (gi_at_call 26; refine (callsIn_wide.2 CR.out).mono ?_; rintro e w8 ⟨rfl, hb8⟩; have HB8 := Lib.hid hb8; have hq0 := boxed_same (hb8.block N (by omega)) HN.out; have hq1 := boxed_same (hb8.block (N + 1) (by omega)) H1.out; have hq2 := boxed_same (hb8.block (N + 2) (by omega)) HV.out; have c0 := hq0.cell; have f0 := hq0.frozen; have c1 := hq1.cell; have f1 := hq1.frozen; have c2 := hq2.cell; clear hb8 hq0 hq1 hq2) | fail)
      obtain ⟨_, x2, x3, x4, x5, x6⟩ := HX.out w8 HB8.out (.slice A all.length c)
      refine ⟨by simp, .inl ⟨_, _, rfl, run_takeDeferred x2, ?_⟩⟩
      have p0 := x3.cell
      have p1 := x4.cell
      have h2 := HG2.out
      simp only [if_true] at h2
      obtain ⟨rfl, rfl⟩ := Prod.mk.inj (Option.some.inj h2)
      exact ⟨.tuple #[.agg #[.slice A all.length c], .bool true], by simp [results, Tryz.f12, go_sem, p0, p1], _, rfl, hN.symm ▸ x5, hN.symm ▸ x6⟩
    | false =>
      gi_wp2_with (first | (gi_at_call 26; refine (callsIn_wide.2 CR.out).mono ?_; rintro e w8 ⟨rfl, hb8⟩; have HB8 := Lib.hid hb8; have hq0 := boxed_same (hb8.block N (by omega)) HN.out; have hq1 := boxed_same (hb8.block (N + 1) (by omega)) H1.out; have hq2 := boxed_same (hb8.block (N + 2) (by omega)) HV.out; have c0 := hq0.cell; have f0 := hq0.frozen; have c1 := hq1.cell; have f1 := hq1.frozen; have c2 := hq2.cell; clear hb8 hq0 hq1 hq2) | fail)
      obtain ⟨_, x2, x3, x4, x5, x6⟩ := HX.out w8 HB8.out (.slice none 0 0)
      refine ⟨by simp, .inl ⟨_, _, rfl, run_takeDeferred x2, ?_⟩⟩
      have p0 := x3.cell
      have p1 := x4.cell
      have h2 := HG2.out
      simp only [Bool.false_eq_true, if_false] at h2
      obtain ⟨rfl, rfl⟩ := Prod.mk.inj (Option.some.inj h2)
      exact ⟨.tuple #[.agg #[.slice none 0 0], .bool false], by simp [results, Tryz.f12, go_sem, p0, p1], _, rfl, Kd.S_nil _ _ _ _ _, hN.symm ▸ x6⟩
  case stop =>
    rintro D c W hD' ⟨rfl, hbN, hb1, HGF, hBl⟩ hK
    obtain ⟨rfl, rfl⟩ := HGF.out
    have hDl := (Array.getElem?_eq_some_iff.1 hK).1
    have HN := Lib.hid hbN
    have H1 := Lib.hid hb1
    have HB := Lib.hid hBl
    clear hbN hb1 hBl
    gi_wp2
    refine ⟨by simp, .inl ⟨_, _, rfl, run_takeDeferred hK, ?_⟩⟩
    have p0 := (boxed_same (World.putObj_heap_other (o := .deferred none) (by omega : N ≠ D)) HN.out).cell
    have p1 := (boxed_same (World.putObj_heap_other (o := .deferred none) (by omega : N + 1 ≠ D)) H1.out).cell
    exact ⟨.tuple #[.agg #[.slice none 0 0], .bool false], by simp [results, Tryz.f12, go_sem, p0, p1], _, rfl, Kd.S_nil _ _ _ _ _, bl_putObj HB.out _ (by omega) (by omega) hK⟩
end
end Go.Proofs.YtijooffpjfhidaaGreatDoor.G
end
section
namespace Go.Proofs.YtijooffpjfhidaaGreatDoor.G
open Go.RowKit Go.Proofs.YtijooffpjfhidaaGreatDoorW.PrintWords Go.Proofs.YtijooffpjfhidaaGreatDoorW.PrintLast Go.Proofs.YtijooffpjfhidaaGreatDoorW.PrintMore
attribute [local go_sem] Go.Proofs.YtijooffpjfhidaaGreatDoor.Aid.gtr_string max2_int min2_int max_two min_two max_three min_three max_four min_four
set_option linter.unusedVariables false
set_option linter.unusedSimpArgs false
def hoggetlaw05_word.f (k : Nat) (a0 : ByteArray) : Option (ByteArray) := (span_Parse.f k a0).bind fun bt338 => ((span_Print.f k bt338.1).bind fun bt343 => (if bt338.2 = true then (if bt343.2 = true then (some bt343.1) else (some (⟨#[110, 111, 110, 101]⟩ : ByteArray))) else (some (⟨#[110, 111, 110, 101]⟩ : ByteArray))))
set_option maxHeartbeats 8000000 in
set_option maxRecDepth 100000 in
theorem hoggetlaw05_word.calls (k : Nat) (a0 : ByteArray) (r : ByteArray) (w : World) (h : hoggetlaw05_word.f k a0 = some r) (hLD : LD w) :
    Calls Tryz.prog 33 #[.string a0] w fun e w' => e = .returned (.string r) ∧ Below w.heap.size w w' := by
  have hu24 := Tryz.underlying24
  have HB := Aside0.mk (Below.refl w.heap.size w)
  have H : ((span_Parse.f k a0).bind fun bt338 => ((span_Print.f k bt338.1).bind fun bt343 => (if bt338.2 = true then (if bt343.2 = true then (some bt343.1) else (some (⟨#[110, 111, 110, 101]⟩ : ByteArray))) else (some (⟨#[110, 111, 110, 101]⟩ : ByteArray))))) = some r := h
  clear h
  replace H := Option.bind_eq_some_iff.mp H
  obtain ⟨⟨t338, t341⟩, A20, H⟩ := H
  replace H : ((span_Print.f k t338).bind fun bt343 => (if t341 = true then (if bt343.2 = true then (some bt343.1) else (some (⟨#[110, 111, 110, 101]⟩ : ByteArray))) else (some (⟨#[110, 111, 110, 101]⟩ : ByteArray)))) = some r := H
  have A2 := Aside0.mk A20
  clear A20
  replace H := Option.bind_eq_some_iff.mp H
  obtain ⟨⟨t343, t344⟩, A30, H⟩ := H
  replace H : (if t341 = true then (if t344 = true then (some t343) else (some (⟨#[110, 111, 110, 101]⟩ : ByteArray))) else (some (⟨#[110, 111, 110, 101]⟩ : ByteArray))) = some r := H
  have A3 := Aside0.mk A30
  clear A30
  by_cases c4 : t341 = true
  · subst c4
    have H1 : (if t344 = true then (some t343) else (some (⟨#[110, 111, 110, 101]⟩ : ByteArray))) = some r := by rw [if_pos rfl] at H; exact H
    clear H
    have H := H1
    clear H1
    by_cases c5 : t344 = true
    · subst c5
      have H1 : (some t343) = some r := by rw [if_pos rfl] at H; exact H
      clear H
      have H := H1
      clear H1
      obtain rfl := Option.some.inj H
      go_enter Tryz.func33, Tryz.ntmps33
      go_wp2_with (first | ((with_reducible refine gate_callee (f := 12) rfl ?_); refine goesL_ (some 9) rfl rfl Tryz.func12 (by kernel_rfl) rfl #[.string a0] rfl (by (try simp only [List.map_toArray, List.map_cons, List.map_nil]); first | done | rfl | (simp only [List.length_drop, List.length_take]; rfl)) ?_; (with_reducible refine (span_Parse.calls k a0 t338 true _ A2.out (by first | exact hLD | exact LD.below hLD (by repeat (first | exact HB.out | exact Below.refl _ _ | exact Aside0.out (by assumption) | apply below_alloc | apply pw_below_drewN | apply below_drew1 | refine below_set ?_ ?_)))).mono ?_); rintro e w6 ⟨v339, rfl, ho0, hb⟩; refine ⟨_, rfl, ?_⟩; have n0_ := Aside0.mk (Kd.S_lower ho0 (below_size (by repeat (first | (with_reducible first | exact HB.out | apply below_alloc | apply pw_below_drewN | apply below_drew1) | exact HB.out)))); have n1_ := Aside0.mk (below_step (by repeat (first | (with_reducible first | exact HB.out | apply below_alloc | apply pw_below_drewN | apply below_drew1) | exact HB.out)) hb); clear HB; have HO340 := n0_; have HB := n1_; clear n0_ n1_; (try clear hb); (try clear hb2); (try clear hk); (try clear hi); (try clear ho0)) | ((with_reducible refine gate_dst (N := 3) rfl ?_); refine box_event ?hg (N := 3) ?hd (cs := #[.slice none 0 0]) (t := 24) ?hr ?_; (case hd => rfl); (case hg => rfl); (case hr => first | (go_simp; done) | (go_simp; rfl)); intro gb342 hg w7 hbox hb; have n0_ := Aside0.mk (Kd.S_below (by (with_reducible repeat (first | apply Kd.S_alloc | apply Kd.S_drewN | apply Kd.S_drew)); exact HO340.out) hb); have n1_ := Aside0.mk (below_step (by repeat (first | (with_reducible first | exact HB.out | apply below_alloc | apply pw_below_drewN | apply below_drew1) | exact HB.out)) hb); have n2_ := Aside0.mk (hbox); have n3_ := Aside0.mk ((by rw [hg]; exact (below_size (by repeat (first | (with_reducible first | exact HB.out | apply below_alloc | apply pw_below_drewN | apply below_drew1) | exact HB.out))) : w.heap.size ≤ gb342)); have n4_ := Aside0.mk ((by rw [hg]; exact (below_size (by repeat (first | (with_reducible first | exact HB.out | apply below_alloc | apply pw_below_drewN | apply below_drew1) | exact HB.out))) : w.heap.size ≤ gb342)); clear HO340; clear HB; have HO340 := n0_; have HB := n1_; have BK342 := n2_; have GW342 := n3_; have GE342 := n4_; clear n0_ n1_ n2_ n3_ n4_; clear hb hbox hg; obtain ⟨Ao8, co8, eo8⟩ := Kd.S_slice HO340.out; subst eo8; have hcz9_0 : w7.cell? ⟨gb342, 0, none⟩ = some (.slice none 0 0) := (blk_cell BK342.out 0).trans rfl; have hfz9_0 := blk_frozen BK342.out 0) | ((with_reducible refine gate_callee (f := 14) rfl ?_); refine goesL_ (some 14) rfl rfl Tryz.func14 (by kernel_rfl) rfl #[.agg #[.slice Ao8 t338.length co8]] rfl (by (try simp only [List.map_toArray, List.map_cons, List.map_nil]); first | done | rfl | (simp only [List.length_drop, List.length_take]; rfl)) ?_; (with_reducible refine (span_Print.calls k _ _ t338 t343 true _ ?side1 ?side2 A3.out (by first | exact hLD | exact LD.below hLD (by repeat (first | exact HB.out | exact Below.refl _ _ | exact Aside0.out (by assumption) | apply below_alloc | apply pw_below_drewN | apply below_drew1 | refine below_set ?_ ?_)))).mono ?_); (case side1 => refine (Kd.S_reads' (e := 38) (base := w.heap.size) (ok := fun k_ => True) (n := t338.length) (c := co8) ?_).2.2; exact (by (with_reducible repeat (first | apply Kd.S_alloc | apply Kd.S_drewN | apply Kd.S_drew)); exact (Kd.S_mono (Kd.S_far (p := ⟨gb342, 0, none⟩) (Kd.S_types HO340.out BK342.out (by decide)) (fun _ hk => hk.2) (.slice Ao8 t338.length co8)) (fun _ h_ => h_.1)))); (case side2 => exact (Kd.S_reads' HO340.out).2.1); rintro e w10 ⟨rfl, hb⟩; refine ⟨_, rfl, ?_⟩; have n0_ := Aside0.mk (Kd.S_below (by (with_reducible repeat (first | apply Kd.S_alloc | apply Kd.S_drewN | apply Kd.S_drew)); exact (Kd.S_mono (Kd.S_far (p := ⟨gb342, 0, none⟩) (Kd.S_types HO340.out BK342.out (by decide)) (fun _ hk => hk.2) (.slice Ao8 t338.length co8)) (fun _ h_ => h_.1))) hb); have n1_ := Aside0.mk (blk_below (g := gb342) (o := .cells #[.slice Ao8 t338.length co8] 24 (0, 0)) (by (with_reducible repeat (first | refine blk_drewN ?_ _ | refine blk_drew ?_ | refine blk_alloc ?_ _)); refine blk_put (cs := #[.slice none 0 0]) ?_ 0 _ rfl; (with_reducible repeat (first | refine blk_drewN ?_ _ | refine blk_drew ?_ | refine blk_alloc ?_ _)); exact BK342.out) hb); have n2_ := Aside0.mk (below_step (by repeat (first | (with_reducible first | exact HB.out | apply below_alloc | apply pw_below_drewN | apply below_drew1 | refine below_set ?_ GE342.out) | exact HB.out)) hb); clear HO340; clear BK342; clear HB; have HO340 := n0_; have BK342 := n1_; have HB := n2_; clear n0_ n1_ n2_; (try clear hb); (try clear hb2); (try clear hk); (try clear hi)))
      go_ret
      exact ⟨by first | rfl | (simp [errW_none, errW_some] <;> rfl) | (simp [*, errW_none, errW_some] <;> rfl), by repeat (first | (with_reducible first | exact HB.out | apply below_alloc | apply pw_below_drewN | apply below_drew1 | refine below_set ?_ GE342.out) | exact HB.out)⟩
    · replace c5 := Bool.eq_false_iff.mpr c5
      subst c5
      have H1 : (some (⟨#[110, 111, 110, 101]⟩ : ByteArray)) = some r := by rw [if_neg (show ¬ (false = true) by decide)] at H; exact H
      clear H
      have H := H1
      clear H1
      obtain rfl := Option.some.inj H
      go_enter Tryz.func33, Tryz.ntmps33
      go_wp2_with (first | ((with_reducible refine gate_callee (f := 12) rfl ?_); refine goesL_ (some 9) rfl rfl Tryz.func12 (by kernel_rfl) rfl #[.string a0] rfl (by (try simp only [List.map_toArray, List.map_cons, List.map_nil]); first | done | rfl | (simp only [List.length_drop, List.length_take]; rfl)) ?_; (with_reducible refine (span_Parse.calls k a0 t338 true _ A2.out (by first | exact hLD | exact LD.below hLD (by repeat (first | exact HB.out | exact Below.refl _ _ | exact Aside0.out (by assumption) | apply below_alloc | apply pw_below_drewN | apply below_drew1 | refine below_set ?_ ?_)))).mono ?_); rintro e w11 ⟨v339, rfl, ho0, hb⟩; refine ⟨_, rfl, ?_⟩; have n0_ := Aside0.mk (Kd.S_lower ho0 (below_size (by repeat (first | (with_reducible first | exact HB.out | apply below_alloc | apply pw_below_drewN | apply below_drew1) | exact HB.out)))); have n1_ := Aside0.mk (below_step (by repeat (first | (with_reducible first | exact HB.out | apply below_alloc | apply pw_below_drewN | apply below_drew1) | exact HB.out)) hb); clear HB; have HO340 := n0_; have HB := n1_; clear n0_ n1_; (try clear hb); (try clear hb2); (try clear hk); (try clear hi); (try clear ho0)) | ((with_reducible refine gate_dst (N := 3) rfl ?_); refine box_event ?hg (N := 3) ?hd (cs := #[.slice none 0 0]) (t := 24) ?hr ?_; (case hd => rfl); (case hg => rfl); (case hr => first | (go_simp; done) | (go_simp; rfl)); intro gb342 hg w12 hbox hb; have n0_ := Aside0.mk (Kd.S_below (by (with_reducible repeat (first | apply Kd.S_alloc | apply Kd.S_drewN | apply Kd.S_drew)); exact HO340.out) hb); have n1_ := Aside0.mk (below_step (by repeat (first | (with_reducible first | exact HB.out | apply below_alloc | apply pw_below_drewN | apply below_drew1) | exact HB.out)) hb); have n2_ := Aside0.mk (hbox); have n3_ := Aside0.mk ((by rw [hg]; exact (below_size (by repeat (first | (with_reducible first | exact HB.out | apply below_alloc | apply pw_below_drewN | apply below_drew1) | exact HB.out))) : w.heap.size ≤ gb342)); have n4_ := Aside0.mk ((by rw [hg]; exact (below_size (by repeat (first | (with_reducible first | exact HB.out | apply below_alloc | apply pw_below_drewN | apply below_drew1) | exact HB.out))) : w.heap.size ≤ gb342)); clear HO340; clear HB; have HO340 := n0_; have HB := n1_; have BK342 := n2_; have GW342 := n3_; have GE342 := n4_; clear n0_ n1_ n2_ n3_ n4_; clear hb hbox hg; obtain ⟨Ao13, co13, eo13⟩ := Kd.S_slice HO340.out; subst eo13; have hcz14_0 : w12.cell? ⟨gb342, 0, none⟩ = some (.slice none 0 0) := (blk_cell BK342.out 0).trans rfl; have hfz14_0 := blk_frozen BK342.out 0) | ((with_reducible refine gate_callee (f := 14) rfl ?_); refine goesL_ (some 14) rfl rfl Tryz.func14 (by kernel_rfl) rfl #[.agg #[.slice Ao13 t338.length co13]] rfl (by (try simp only [List.map_toArray, List.map_cons, List.map_nil]); first | done | rfl | (simp only [List.length_drop, List.length_take]; rfl)) ?_; (with_reducible refine (span_Print.calls k _ _ t338 t343 false _ ?side1 ?side2 A3.out (by first | exact hLD | exact LD.below hLD (by repeat (first | exact HB.out | exact Below.refl _ _ | exact Aside0.out (by assumption) | apply below_alloc | apply pw_below_drewN | apply below_drew1 | refine below_set ?_ ?_)))).mono ?_); (case side1 => refine (Kd.S_reads' (e := 38) (base := w.heap.size) (ok := fun k_ => True) (n := t338.length) (c := co13) ?_).2.2; exact (by (with_reducible repeat (first | apply Kd.S_alloc | apply Kd.S_drewN | apply Kd.S_drew)); exact (Kd.S_mono (Kd.S_far (p := ⟨gb342, 0, none⟩) (Kd.S_types HO340.out BK342.out (by decide)) (fun _ hk => hk.2) (.slice Ao13 t338.length co13)) (fun _ h_ => h_.1)))); (case side2 => exact (Kd.S_reads' HO340.out).2.1); rintro e w15 ⟨rfl, hb⟩; refine ⟨_, rfl, ?_⟩; have n0_ := Aside0.mk (Kd.S_below (by (with_reducible repeat (first | apply Kd.S_alloc | apply Kd.S_drewN | apply Kd.S_drew)); exact (Kd.S_mono (Kd.S_far (p := ⟨gb342, 0, none⟩) (Kd.S_types HO340.out BK342.out (by decide)) (fun _ hk => hk.2) (.slice Ao13 t338.length co13)) (fun _ h_ => h_.1))) hb); have n1_ := Aside0.mk (blk_below (g := gb342) (o := .cells #[.slice Ao13 t338.length co13] 24 (0, 0)) (by (with_reducible repeat (first | refine blk_drewN ?_ _ | refine blk_drew ?_ | refine blk_alloc ?_ _)); refine blk_put (cs := #[.slice none 0 0]) ?_ 0 _ rfl; (with_reducible repeat (first | refine blk_drewN ?_ _ | refine blk_drew ?_ | refine blk_alloc ?_ _)); exact BK342.out) hb); have n2_ := Aside0.mk (below_step (by repeat (first | (with_reducible first | exact HB.out | apply below_alloc | apply pw_below_drewN | apply below_drew1 | refine below_set ?_ GE342.out) | exact HB.out)) hb); clear HO340; clear BK342; clear HB; have HO340 := n0_; have BK342 := n1_; have HB := n2_; clear n0_ n1_ n2_; (try clear hb); (try clear hb2); (try clear hk); (try clear hi)))
      go_ret
      exact ⟨by first | rfl | (simp [errW_none, errW_some] <;> rfl) | (simp [*, errW_none, errW_some] <;> rfl), by repeat (first | (with_reducible first | exact HB.out | apply below_alloc | apply pw_below_drewN | apply below_drew1 | refine below_set ?_ GE342.out) | exact HB.out)⟩
  · replace c4 := Bool.eq_false_iff.mpr c4
    subst c4
    have H1 : (some (⟨#[110, 111, 110, 101]⟩ : ByteArray)) = some r := by rw [if_neg (show ¬ (false = true) by decide)] at H; exact H
    clear H
    have H := H1
    clear H1
    obtain rfl := Option.some.inj H
    go_enter Tryz.func33, Tryz.ntmps33
    go_wp2_with (first | ((with_reducible refine gate_callee (f := 12) rfl ?_); refine goesL_ (some 9) rfl rfl Tryz.func12 (by kernel_rfl) rfl #[.string a0] rfl (by (try simp only [List.map_toArray, List.map_cons, List.map_nil]); first | done | rfl | (simp only [List.length_drop, List.length_take]; rfl)) ?_; (with_reducible refine (span_Parse.calls k a0 t338 false _ A2.out (by first | exact hLD | exact LD.below hLD (by repeat (first | exact HB.out | exact Below.refl _ _ | exact Aside0.out (by assumption) | apply below_alloc | apply pw_below_drewN | apply below_drew1 | refine below_set ?_ ?_)))).mono ?_); rintro e w16 ⟨v339, rfl, ho0, hb⟩; refine ⟨_, rfl, ?_⟩; have n0_ := Aside0.mk (Kd.S_lower ho0 (below_size (by repeat (first | (with_reducible first | exact HB.out | apply below_alloc | apply pw_below_drewN | apply below_drew1) | exact HB.out)))); have n1_ := Aside0.mk (below_step (by repeat (first | (with_reducible first | exact HB.out | apply below_alloc | apply pw_below_drewN | apply below_drew1) | exact HB.out)) hb); clear HB; have HO340 := n0_; have HB := n1_; clear n0_ n1_; (try clear hb); (try clear hb2); (try clear hk); (try clear hi); (try clear ho0)) | ((with_reducible refine gate_dst (N := 3) rfl ?_); refine box_event ?hg (N := 3) ?hd (cs := #[.slice none 0 0]) (t := 24) ?hr ?_; (case hd => rfl); (case hg => rfl); (case hr => first | (go_simp; done) | (go_simp; rfl)); intro gb342 hg w17 hbox hb; have n0_ := Aside0.mk (Kd.S_below (by (with_reducible repeat (first | apply Kd.S_alloc | apply Kd.S_drewN | apply Kd.S_drew)); exact HO340.out) hb); have n1_ := Aside0.mk (below_step (by repeat (first | (with_reducible first | exact HB.out | apply below_alloc | apply pw_below_drewN | apply below_drew1) | exact HB.out)) hb); have n2_ := Aside0.mk (hbox); have n3_ := Aside0.mk ((by rw [hg]; exact (below_size (by repeat (first | (with_reducible first | exact HB.out | apply below_alloc | apply pw_below_drewN | apply below_drew1) | exact HB.out))) : w.heap.size ≤ gb342)); have n4_ := Aside0.mk ((by rw [hg]; exact (below_size (by repeat (first | (with_reducible first | exact HB.out | apply below_alloc | apply pw_below_drewN | apply below_drew1) | exact HB.out))) : w.heap.size ≤ gb342)); clear HO340; clear HB; have HO340 := n0_; have HB := n1_; have BK342 := n2_; have GW342 := n3_; have GE342 := n4_; clear n0_ n1_ n2_ n3_ n4_; clear hb hbox hg; obtain ⟨Ao18, co18, eo18⟩ := Kd.S_slice HO340.out; subst eo18; have hcz19_0 : w17.cell? ⟨gb342, 0, none⟩ = some (.slice none 0 0) := (blk_cell BK342.out 0).trans rfl; have hfz19_0 := blk_frozen BK342.out 0) | ((with_reducible refine gate_callee (f := 14) rfl ?_); refine goesL_ (some 14) rfl rfl Tryz.func14 (by kernel_rfl) rfl #[.agg #[.slice Ao18 t338.length co18]] rfl (by (try simp only [List.map_toArray, List.map_cons, List.map_nil]); first | done | rfl | (simp only [List.length_drop, List.length_take]; rfl)) ?_; (with_reducible refine (span_Print.calls k _ _ t338 t343 t344 _ ?side1 ?side2 A3.out (by first | exact hLD | exact LD.below hLD (by repeat (first | exact HB.out | exact Below.refl _ _ | exact Aside0.out (by assumption) | apply below_alloc | apply pw_below_drewN | apply below_drew1 | refine below_set ?_ ?_)))).mono ?_); (case side1 => refine (Kd.S_reads' (e := 38) (base := w.heap.size) (ok := fun k_ => True) (n := t338.length) (c := co18) ?_).2.2; exact (by (with_reducible repeat (first | apply Kd.S_alloc | apply Kd.S_drewN | apply Kd.S_drew)); exact (Kd.S_mono (Kd.S_far (p := ⟨gb342, 0, none⟩) (Kd.S_types HO340.out BK342.out (by decide)) (fun _ hk => hk.2) (.slice Ao18 t338.length co18)) (fun _ h_ => h_.1)))); (case side2 => exact (Kd.S_reads' HO340.out).2.1); rintro e w20 ⟨rfl, hb⟩; refine ⟨_, rfl, ?_⟩; have n0_ := Aside0.mk (Kd.S_below (by (with_reducible repeat (first | apply Kd.S_alloc | apply Kd.S_drewN | apply Kd.S_drew)); exact (Kd.S_mono (Kd.S_far (p := ⟨gb342, 0, none⟩) (Kd.S_types HO340.out BK342.out (by decide)) (fun _ hk => hk.2) (.slice Ao18 t338.length co18)) (fun _ h_ => h_.1))) hb); have n1_ := Aside0.mk (blk_below (g := gb342) (o := .cells #[.slice Ao18 t338.length co18] 24 (0, 0)) (by (with_reducible repeat (first | refine blk_drewN ?_ _ | refine blk_drew ?_ | refine blk_alloc ?_ _)); refine blk_put (cs := #[.slice none 0 0]) ?_ 0 _ rfl; (with_reducible repeat (first | refine blk_drewN ?_ _ | refine blk_drew ?_ | refine blk_alloc ?_ _)); exact BK342.out) hb); have n2_ := Aside0.mk (below_step (by repeat (first | (with_reducible first | exact HB.out | apply below_alloc | apply pw_below_drewN | apply below_drew1 | refine below_set ?_ GE342.out) | exact HB.out)) hb); clear HO340; clear BK342; clear HB; have HO340 := n0_; have BK342 := n1_; have HB := n2_; clear n0_ n1_ n2_; (try clear hb); (try clear hb2); (try clear hk); (try clear hi)))
    go_ret
    exact ⟨by first | rfl | (simp [errW_none, errW_some] <;> rfl) | (simp [*, errW_none, errW_some] <;> rfl), by repeat (first | (with_reducible first | exact HB.out | apply below_alloc | apply pw_below_drewN | apply below_drew1 | refine below_set ?_ GE342.out) | exact HB.out)⟩
end Go.Proofs.YtijooffpjfhidaaGreatDoor.G
end
