/- Texts that the claims' laws stand on, put together by a program of this session (wip/prune.py): printed functions, their walks, and plain lemmas. -/
import Derived.Lib.ItoaNum
import Derived.Lib.IndexLaws
import Derived.Test.YtijooffpjfhidaaGreatDoorC4
set_option linter.unusedVariables false
set_option linter.unusedSimpArgs false
section
namespace Go.Proofs.YtijooffpjfhidaaGreatDoor.G
open Go.RowKit Go.Proofs.YtijooffpjfhidaaGreatDoorW.PrintWords Go.Proofs.YtijooffpjfhidaaGreatDoorW.PrintLast Go.Proofs.YtijooffpjfhidaaGreatDoorW.PrintMore
attribute [local go_sem] Go.Proofs.YtijooffpjfhidaaGreatDoor.Aid.gtr_string max2_int min2_int max_two min_two max_three min_three max_four min_four
set_option linter.unusedVariables false
set_option linter.unusedSimpArgs false
set_option maxHeartbeats 8000000
set_option maxRecDepth 100000
def hoggetlaw05_word.f (k : Nat) (a0 : ByteArray) : Option (ByteArray) := (span_Parse.f k a0).bind fun bt338 => ((span_Print.f k bt338.1).bind fun bt343 => (if bt338.2 = true then (if bt343.2 = true then (some bt343.1) else (some (⟨#[110, 111, 110, 101]⟩ : ByteArray))) else (some (⟨#[110, 111, 110, 101]⟩ : ByteArray))))
theorem hoggetlaw05_word.calls (k : Nat) (a0 : ByteArray) (r : ByteArray) (w : World) (h : hoggetlaw05_word.f k a0 = some r) (hLD : LD w) :
 Calls Tryz.prog 33 #[.string a0] w fun e w' => e = .returned (.string r) ∧ Below w.heap.size w w' := by
 have hu24 := Tryz.underlying24;have HB := Aside0.mk (Below.refl w.heap.size w);have H : ((span_Parse.f k a0).bind fun bt338 => ((span_Print.f k bt338.1).bind fun bt343 => (if bt338.2 = true then (if bt343.2 = true then (some bt343.1) else (some (⟨#[110, 111, 110, 101]⟩ : ByteArray))) else (some (⟨#[110, 111, 110, 101]⟩ : ByteArray))))) = some r := h;clear h;replace H := Option.bind_eq_some_iff.mp H;obtain ⟨⟨t338, t341⟩, A20, H⟩ := H;have A2 := Aside0.mk A20;clear A20;replace H := Option.bind_eq_some_iff.mp H;obtain ⟨⟨t343, t344⟩, A30, H⟩ := H;have A3 := Aside0.mk A30;clear A30;by_cases c4 : t341 = true
 ·subst c4;(have H1 : (if t344 = true then (some t343) else (some (⟨#[110, 111, 110, 101]⟩ : ByteArray))) = some r := by rw [if_pos rfl] at H; exact H);clear H;have H := H1;clear H1;by_cases c5 : t344 = true
  ·subst c5;(have H1 : (some t343) = some r := by rw [if_pos rfl] at H; exact H);clear H;have H := H1;clear H1;obtain rfl := Option.some.inj H;(go_enter Tryz.func33, Tryz.ntmps33);go_wp2_with (first | ((with_reducible refine gate_callee (f := 12) rfl ?_); refine goesL_ (some 9) rfl rfl Tryz.func12 (by kernel_rfl) rfl #[.string a0] rfl sM ?_; (with_reducible refine (span_Parse.calls k a0 t338 true _ A2.out (sH hLD HB.out)).mono ?_); rintro e w6 ⟨v339, rfl, ho0, hb⟩; refine ⟨_, rfl, ?_⟩; have n0_ := Aside0.mk (Kd.S_lower ho0 (below_size (sL HB.out))); have n1_ := Aside0.mk (below_step (sL HB.out) hb); clear HB; have HO340 := n0_; have HB := n1_; clear n0_ n1_; (try clear hb); (try clear hb2); (try clear hk); (try clear hi); (try clear ho0)) | ((with_reducible refine gate_dst (N := 3) rfl ?_); refine box_event ?hg (N := 3) ?hd (cs := #[.slice none 0 0]) (t := 24) ?hr ?_; (case hd => rfl); (case hg => rfl); (case hr => first | (go_simp; done) | (go_simp; rfl)); intro gb342 hg w7 hbox hb; have n0_ := Aside0.mk (Kd.S_below (sS HO340.out) hb); have n1_ := Aside0.mk (below_step (sL HB.out) hb); have n2_ := Aside0.mk (hbox); have n3_ := Aside0.mk ((by rw [hg]; exact (below_size (sL HB.out)) : w.heap.size ≤ gb342)); have n4_ := Aside0.mk ((by rw [hg]; exact (below_size (sL HB.out)) : w.heap.size ≤ gb342)); clear HO340; clear HB; have HO340 := n0_; have HB := n1_; have BK342 := n2_; have GW342 := n3_; have GE342 := n4_; clear n0_ n1_ n2_ n3_ n4_; clear hb hbox hg; obtain ⟨Ao8, co8, eo8⟩ := Kd.S_slice HO340.out; subst eo8; have hcz9_0 : w7.cell? ⟨gb342, 0, none⟩ = some (.slice none 0 0) := (blk_cell BK342.out 0).trans rfl; have hfz9_0 := blk_frozen BK342.out 0) | ((with_reducible refine gate_callee (f := 14) rfl ?_); refine goesL_ (some 14) rfl rfl Tryz.func14 (by kernel_rfl) rfl #[.agg #[.slice Ao8 t338.length co8]] rfl sM ?_; (with_reducible refine (span_Print.calls k _ _ t338 t343 true _ ?side1 ?side2 A3.out (sH hLD HB.out)).mono ?_); (case side1 => refine (Kd.S_reads' (e := 38) (base := w.heap.size) (ok := fun k_ => True) (n := t338.length) (c := co8) ?_).2.2; exact (by refine sS ?_; exact (Kd.S_mono (Kd.S_far (p := ⟨gb342, 0, none⟩) (Kd.S_types HO340.out BK342.out (by decide)) (fun _ hk => hk.2) (.slice Ao8 t338.length co8)) (fun _ h_ => h_.1)))); (case side2 => exact (Kd.S_reads' HO340.out).2.1); rintro e w10 ⟨rfl, hb⟩; refine ⟨_, rfl, ?_⟩; have n0_ := Aside0.mk (Kd.S_below (by refine sS ?_; exact (Kd.S_mono (Kd.S_far (p := ⟨gb342, 0, none⟩) (Kd.S_types HO340.out BK342.out (by decide)) (fun _ hk => hk.2) (.slice Ao8 t338.length co8)) (fun _ h_ => h_.1))) hb); have n1_ := Aside0.mk (blk_below (g := gb342) (o := .cells #[.slice Ao8 t338.length co8] 24 (0, 0)) (by refine sB ?_; refine blk_put (cs := #[.slice none 0 0]) ?_ 0 _ rfl; refine sB ?_; exact BK342.out) hb); have n2_ := Aside0.mk (below_step (sL1 HB.out GE342.out) hb); clear HO340; clear BK342; clear HB; have HO340 := n0_; have BK342 := n1_; have HB := n2_; clear n0_ n1_ n2_; (try clear hb); (try clear hb2); (try clear hk); (try clear hi)));go_ret;exact ⟨by first | rfl | (simp [errW_none, errW_some] <;> rfl) | (simp [*, errW_none, errW_some] <;> rfl), sL1 HB.out GE342.out⟩
  ·replace c5 := Bool.eq_false_iff.mpr c5;subst c5;(have H1 : (some (⟨#[110, 111, 110, 101]⟩ : ByteArray)) = some r := by rw [if_neg (show ¬ (false = true) by decide)] at H; exact H);clear H;have H := H1;clear H1;obtain rfl := Option.some.inj H;(go_enter Tryz.func33, Tryz.ntmps33);go_wp2_with (first | ((with_reducible refine gate_callee (f := 12) rfl ?_); refine goesL_ (some 9) rfl rfl Tryz.func12 (by kernel_rfl) rfl #[.string a0] rfl sM ?_; (with_reducible refine (span_Parse.calls k a0 t338 true _ A2.out (sH hLD HB.out)).mono ?_); rintro e w11 ⟨v339, rfl, ho0, hb⟩; refine ⟨_, rfl, ?_⟩; have n0_ := Aside0.mk (Kd.S_lower ho0 (below_size (sL HB.out))); have n1_ := Aside0.mk (below_step (sL HB.out) hb); clear HB; have HO340 := n0_; have HB := n1_; clear n0_ n1_; (try clear hb); (try clear hb2); (try clear hk); (try clear hi); (try clear ho0)) | ((with_reducible refine gate_dst (N := 3) rfl ?_); refine box_event ?hg (N := 3) ?hd (cs := #[.slice none 0 0]) (t := 24) ?hr ?_; (case hd => rfl); (case hg => rfl); (case hr => first | (go_simp; done) | (go_simp; rfl)); intro gb342 hg w12 hbox hb; have n0_ := Aside0.mk (Kd.S_below (sS HO340.out) hb); have n1_ := Aside0.mk (below_step (sL HB.out) hb); have n2_ := Aside0.mk (hbox); have n3_ := Aside0.mk ((by rw [hg]; exact (below_size (sL HB.out)) : w.heap.size ≤ gb342)); have n4_ := Aside0.mk ((by rw [hg]; exact (below_size (sL HB.out)) : w.heap.size ≤ gb342)); clear HO340; clear HB; have HO340 := n0_; have HB := n1_; have BK342 := n2_; have GW342 := n3_; have GE342 := n4_; clear n0_ n1_ n2_ n3_ n4_; clear hb hbox hg; obtain ⟨Ao13, co13, eo13⟩ := Kd.S_slice HO340.out; subst eo13; have hcz14_0 : w12.cell? ⟨gb342, 0, none⟩ = some (.slice none 0 0) := (blk_cell BK342.out 0).trans rfl; have hfz14_0 := blk_frozen BK342.out 0) | ((with_reducible refine gate_callee (f := 14) rfl ?_); refine goesL_ (some 14) rfl rfl Tryz.func14 (by kernel_rfl) rfl #[.agg #[.slice Ao13 t338.length co13]] rfl sM ?_; (with_reducible refine (span_Print.calls k _ _ t338 t343 false _ ?side1 ?side2 A3.out (sH hLD HB.out)).mono ?_); (case side1 => refine (Kd.S_reads' (e := 38) (base := w.heap.size) (ok := fun k_ => True) (n := t338.length) (c := co13) ?_).2.2; exact (by refine sS ?_; exact (Kd.S_mono (Kd.S_far (p := ⟨gb342, 0, none⟩) (Kd.S_types HO340.out BK342.out (by decide)) (fun _ hk => hk.2) (.slice Ao13 t338.length co13)) (fun _ h_ => h_.1)))); (case side2 => exact (Kd.S_reads' HO340.out).2.1); rintro e w15 ⟨rfl, hb⟩; refine ⟨_, rfl, ?_⟩; have n0_ := Aside0.mk (Kd.S_below (by refine sS ?_; exact (Kd.S_mono (Kd.S_far (p := ⟨gb342, 0, none⟩) (Kd.S_types HO340.out BK342.out (by decide)) (fun _ hk => hk.2) (.slice Ao13 t338.length co13)) (fun _ h_ => h_.1))) hb); have n1_ := Aside0.mk (blk_below (g := gb342) (o := .cells #[.slice Ao13 t338.length co13] 24 (0, 0)) (by refine sB ?_; refine blk_put (cs := #[.slice none 0 0]) ?_ 0 _ rfl; refine sB ?_; exact BK342.out) hb); have n2_ := Aside0.mk (below_step (sL1 HB.out GE342.out) hb); clear HO340; clear BK342; clear HB; have HO340 := n0_; have BK342 := n1_; have HB := n2_; clear n0_ n1_ n2_; (try clear hb); (try clear hb2); (try clear hk); (try clear hi)));go_ret;exact ⟨by first | rfl | (simp [errW_none, errW_some] <;> rfl) | (simp [*, errW_none, errW_some] <;> rfl), sL1 HB.out GE342.out⟩
 ·replace c4 := Bool.eq_false_iff.mpr c4;subst c4;(have H1 : (some (⟨#[110, 111, 110, 101]⟩ : ByteArray)) = some r := by rw [if_neg (show ¬ (false = true) by decide)] at H; exact H);clear H;have H := H1;clear H1;obtain rfl := Option.some.inj H;(go_enter Tryz.func33, Tryz.ntmps33);go_wp2_with (first | ((with_reducible refine gate_callee (f := 12) rfl ?_); refine goesL_ (some 9) rfl rfl Tryz.func12 (by kernel_rfl) rfl #[.string a0] rfl sM ?_; (with_reducible refine (span_Parse.calls k a0 t338 false _ A2.out (sH hLD HB.out)).mono ?_); rintro e w16 ⟨v339, rfl, ho0, hb⟩; refine ⟨_, rfl, ?_⟩; have n0_ := Aside0.mk (Kd.S_lower ho0 (below_size (sL HB.out))); have n1_ := Aside0.mk (below_step (sL HB.out) hb); clear HB; have HO340 := n0_; have HB := n1_; clear n0_ n1_; (try clear hb); (try clear hb2); (try clear hk); (try clear hi); (try clear ho0)) | ((with_reducible refine gate_dst (N := 3) rfl ?_); refine box_event ?hg (N := 3) ?hd (cs := #[.slice none 0 0]) (t := 24) ?hr ?_; (case hd => rfl); (case hg => rfl); (case hr => first | (go_simp; done) | (go_simp; rfl)); intro gb342 hg w17 hbox hb; have n0_ := Aside0.mk (Kd.S_below (sS HO340.out) hb); have n1_ := Aside0.mk (below_step (sL HB.out) hb); have n2_ := Aside0.mk (hbox); have n3_ := Aside0.mk ((by rw [hg]; exact (below_size (sL HB.out)) : w.heap.size ≤ gb342)); have n4_ := Aside0.mk ((by rw [hg]; exact (below_size (sL HB.out)) : w.heap.size ≤ gb342)); clear HO340; clear HB; have HO340 := n0_; have HB := n1_; have BK342 := n2_; have GW342 := n3_; have GE342 := n4_; clear n0_ n1_ n2_ n3_ n4_; clear hb hbox hg; obtain ⟨Ao18, co18, eo18⟩ := Kd.S_slice HO340.out; subst eo18; have hcz19_0 : w17.cell? ⟨gb342, 0, none⟩ = some (.slice none 0 0) := (blk_cell BK342.out 0).trans rfl; have hfz19_0 := blk_frozen BK342.out 0) | ((with_reducible refine gate_callee (f := 14) rfl ?_); refine goesL_ (some 14) rfl rfl Tryz.func14 (by kernel_rfl) rfl #[.agg #[.slice Ao18 t338.length co18]] rfl sM ?_; (with_reducible refine (span_Print.calls k _ _ t338 t343 t344 _ ?side1 ?side2 A3.out (sH hLD HB.out)).mono ?_); (case side1 => refine (Kd.S_reads' (e := 38) (base := w.heap.size) (ok := fun k_ => True) (n := t338.length) (c := co18) ?_).2.2; exact (by refine sS ?_; exact (Kd.S_mono (Kd.S_far (p := ⟨gb342, 0, none⟩) (Kd.S_types HO340.out BK342.out (by decide)) (fun _ hk => hk.2) (.slice Ao18 t338.length co18)) (fun _ h_ => h_.1)))); (case side2 => exact (Kd.S_reads' HO340.out).2.1); rintro e w20 ⟨rfl, hb⟩; refine ⟨_, rfl, ?_⟩; have n0_ := Aside0.mk (Kd.S_below (by refine sS ?_; exact (Kd.S_mono (Kd.S_far (p := ⟨gb342, 0, none⟩) (Kd.S_types HO340.out BK342.out (by decide)) (fun _ hk => hk.2) (.slice Ao18 t338.length co18)) (fun _ h_ => h_.1))) hb); have n1_ := Aside0.mk (blk_below (g := gb342) (o := .cells #[.slice Ao18 t338.length co18] 24 (0, 0)) (by refine sB ?_; refine blk_put (cs := #[.slice none 0 0]) ?_ 0 _ rfl; refine sB ?_; exact BK342.out) hb); have n2_ := Aside0.mk (below_step (sL1 HB.out GE342.out) hb); clear HO340; clear BK342; clear HB; have HO340 := n0_; have BK342 := n1_; have HB := n2_; clear n0_ n1_ n2_; (try clear hb); (try clear hb2); (try clear hk); (try clear hi)));go_ret;exact ⟨by first | rfl | (simp [errW_none, errW_some] <;> rfl) | (simp [*, errW_none, errW_some] <;> rfl), sL1 HB.out GE342.out⟩
def hoggetlaw05_holds.f (k : Nat) (a0 : ByteArray) (a1 : ByteArray) : Option (Bool) := (span_Parse.f k a0).bind fun bt345 => ((version_Parse.f k a1).bind fun bt350 => (if bt345.2 = true then (if bt350.2.2.2.2 = true then ((span_Holds.f k bt345.1 bt350.1 bt350.2.1 bt350.2.2.1 bt350.2.2.2.1).bind fun t356 => (some t356)) else (some false)) else (some false)))
theorem hoggetlaw05_holds.calls (k : Nat) (a0 : ByteArray) (a1 : ByteArray) (r : Bool) (w : World) (h : hoggetlaw05_holds.f k a0 a1 = some r) (hLD : LD w) :
 Calls Tryz.prog 34 #[.string a0, .string a1] w fun e w' => e = .returned (.bool r) ∧ Below w.heap.size w w' := by
 have hu24 := Tryz.underlying24;have hu35 := Tryz.underlying35;have HB := Aside0.mk (Below.refl w.heap.size w);have H : ((span_Parse.f k a0).bind fun bt345 => ((version_Parse.f k a1).bind fun bt350 => (if bt345.2 = true then (if bt350.2.2.2.2 = true then ((span_Holds.f k bt345.1 bt350.1 bt350.2.1 bt350.2.2.1 bt350.2.2.2.1).bind fun t356 => (some t356)) else (some false)) else (some false)))) = some r := h;clear h;replace H := Option.bind_eq_some_iff.mp H;obtain ⟨⟨t345, t348⟩, A30, H⟩ := H;have A3 := Aside0.mk A30;clear A30;replace H := Option.bind_eq_some_iff.mp H;obtain ⟨⟨t350, t351, t352, t353, t354⟩, A40, H⟩ := H;have A4 := Aside0.mk A40;clear A40;by_cases c5 : t348 = true
 ·subst c5;(have H1 : (if t354 = true then ((span_Holds.f k t345 t350 t351 t352 t353).bind fun t356 => (some t356)) else (some false)) = some r := by rw [if_pos rfl] at H; exact H);clear H;have H := H1;clear H1;by_cases c6 : t354 = true
  ·subst c6;(have H1 : ((span_Holds.f k t345 t350 t351 t352 t353).bind fun t356 => (some t356)) = some r := by rw [if_pos rfl] at H; exact H);clear H;have H := H1;clear H1;replace H := Option.bind_eq_some_iff.mp H;obtain ⟨t356, A70, H⟩ := H;have A7 := Aside0.mk A70;clear A70;obtain rfl := Option.some.inj H;(go_enter Tryz.func34, Tryz.ntmps34);go_wp2_with (first | ((with_reducible refine gate_callee (f := 12) rfl ?_); refine goesL_ (some 11) rfl rfl Tryz.func12 (by kernel_rfl) rfl #[.string a0] rfl sM ?_; (with_reducible refine (span_Parse.calls k a0 t345 true _ A3.out (sH hLD HB.out)).mono ?_); rintro e w8 ⟨v346, rfl, ho0, hb⟩; refine ⟨_, rfl, ?_⟩; have n0_ := Aside0.mk (Kd.S_lower ho0 (below_size (sL HB.out))); have n1_ := Aside0.mk (below_step (sL HB.out) hb); clear HB; have HO347 := n0_; have HB := n1_; clear n0_ n1_; (try clear hb); (try clear hb2); (try clear hk); (try clear hi); (try clear ho0)) | ((with_reducible refine gate_dst (N := 5) rfl ?_); refine box_event ?hg (N := 5) ?hd (cs := #[.slice none 0 0]) (t := 24) ?hr ?_; (case hd => rfl); (case hg => rfl); (case hr => first | (go_simp; done) | (go_simp; rfl)); intro gb349 hg w9 hbox hb; have n0_ := Aside0.mk (Kd.S_below (sS HO347.out) hb); have n1_ := Aside0.mk (below_step (sL HB.out) hb); have n2_ := Aside0.mk (hbox); have n3_ := Aside0.mk ((by rw [hg]; exact (below_size (sL HB.out)) : w.heap.size ≤ gb349)); have n4_ := Aside0.mk ((by rw [hg]; exact (below_size (sL HB.out)) : w.heap.size ≤ gb349)); clear HO347; clear HB; have HO347 := n0_; have HB := n1_; have BK349 := n2_; have GW349 := n3_; have GE349 := n4_; clear n0_ n1_ n2_ n3_ n4_; clear hb hbox hg; obtain ⟨Ao10, co10, eo10⟩ := Kd.S_slice HO347.out; subst eo10; have hcz11_0 : w9.cell? ⟨gb349, 0, none⟩ = some (.slice none 0 0) := (blk_cell BK349.out 0).trans rfl; have hfz11_0 := blk_frozen BK349.out 0) | ((with_reducible refine gate_callee (f := 44) rfl ?_); refine goesL_ (some 16) rfl rfl Tryz.func44 (by kernel_rfl) rfl #[.string a1] rfl sM ?_; (with_reducible refine (version_Parse.calls k a1 t350 t351 t352 t353 true _ A4.out (sH hLD HB.out)).mono ?_); rintro e w12 ⟨rfl, hb⟩; refine ⟨_, rfl, ?_⟩; have n0_ := Aside0.mk (Kd.S_below (by refine sS ?_; exact (Kd.S_mono (Kd.S_far (p := ⟨gb349, 0, none⟩) (Kd.S_types HO347.out BK349.out (by decide)) (fun _ hk => hk.2) (.slice Ao10 t345.length co10)) (fun _ h_ => h_.1))) hb); have n1_ := Aside0.mk (blk_below (g := gb349) (o := .cells #[.slice Ao10 t345.length co10] 24 (0, 0)) (by refine sB ?_; refine blk_put (cs := #[.slice none 0 0]) ?_ 0 _ rfl; refine sB ?_; exact BK349.out) hb); have n2_ := Aside0.mk (below_step (sL1 HB.out GE349.out) hb); clear HO347; clear BK349; clear HB; have HO347 := n0_; have BK349 := n1_; have HB := n2_; clear n0_ n1_ n2_; (try clear hb); (try clear hb2); (try clear hk); (try clear hi)) | ((with_reducible refine gate_dst (N := 7) rfl ?_); refine box_event ?hg (N := 7) ?hd (cs := #[.int .i64 0, .int .i64 0, .int .i64 0, .string (⟨#[]⟩ : ByteArray)]) (t := 35) ?hr ?_; (case hd => rfl); (case hg => rfl); (case hr => first | (go_simp; done) | (go_simp; rfl)); intro gb355 hg w13 hbox hb; have n0_ := Aside0.mk (Kd.S_below (sS HO347.out) hb); have n1_ := Aside0.mk (blk_below (g := gb349) (o := .cells #[.slice Ao10 t345.length co10] 24 (0, 0)) (sB BK349.out) hb); have n2_ := Aside0.mk (below_step (sL1 HB.out GE349.out) hb); have n3_ := Aside0.mk (hbox); have n4_ := Aside0.mk ((by rw [hg]; exact (below_size (sL1 HB.out GE349.out)) : w.heap.size ≤ gb355)); have n5_ := Aside0.mk ((by rw [hg]; exact (below_size (sL1 HB.out GE349.out)) : w.heap.size ≤ gb355)); have n6_ := Aside0.mk ((by rw [hg]; exact Nat.ne_of_lt (blk_lt (g := gb349) (o := .cells #[.slice Ao10 t345.length co10] 24 (0, 0)) (sB BK349.out)) : gb349 ≠ gb355)); have n7_ := Aside0.mk ((by rw [hg]; exact Nat.ne_of_gt (blk_lt (g := gb349) (o := .cells #[.slice Ao10 t345.length co10] 24 (0, 0)) (sB BK349.out)) : gb355 ≠ gb349)); clear HO347; clear BK349; clear HB; have HO347 := n0_; have BK349 := n1_; have HB := n2_; have BK355 := n3_; have GW355 := n4_; have GE355 := n5_; have NB349_355 := n6_; have NB355_349 := n7_; clear n0_ n1_ n2_ n3_ n4_ n5_ n6_ n7_; clear hb hbox hg; have hnb14 := NB355_349.out; have hnc14 := NB349_355.out; have hcz15_0 : w13.cell? ⟨gb355, 0, none⟩ = some (.int .i64 0) := (blk_cell BK355.out 0).trans rfl; have hcz15_1 : w13.cell? ⟨gb355, 1, none⟩ = some (.int .i64 0) := (blk_cell BK355.out 1).trans rfl; have hcz15_2 : w13.cell? ⟨gb355, 2, none⟩ = some (.int .i64 0) := (blk_cell BK355.out 2).trans rfl; have hcz15_3 : w13.cell? ⟨gb355, 3, none⟩ = some (.string (⟨#[]⟩ : ByteArray)) := (blk_cell BK355.out 3).trans rfl; have hfz15_0 := blk_frozen BK355.out 0; have hfz15_1 := blk_frozen BK355.out 1; have hfz15_2 := blk_frozen BK355.out 2; have hfz15_3 := blk_frozen BK355.out 3; have hcz16_0 : w13.cell? ⟨gb349, 0, none⟩ = some (.slice Ao10 t345.length co10) := (blk_cell BK349.out 0).trans rfl; have hfz16_0 := blk_frozen BK349.out 0) | (go_at_call 19; (with_reducible refine (span_Holds.calls k _ _ t345 t350 t351 t352 t353 t356 _ ?side1 ?side2 A7.out (sH hLD HB.out)).mono ?_); (case side1 => refine (Kd.S_reads' (e := 38) (base := w.heap.size) (ok := fun k_ => True) (n := t345.length) (c := co10) ?_).2.2; exact (by refine sS ?_; exact (Kd.S_mono (Kd.S_far (p := ⟨gb355, 3, none⟩) (Kd.S_far (p := ⟨gb355, 2, none⟩) (Kd.S_far (p := ⟨gb355, 1, none⟩) (Kd.S_far (p := ⟨gb355, 0, none⟩) (Kd.S_types HO347.out BK355.out (by decide)) (fun _ hk => hk.2) (.int .i64 t350)) (fun _ hk => hk.2) (.int .i64 t351)) (fun _ hk => hk.2) (.int .i64 t352)) (fun _ hk => hk.2) (.string t353)) (fun _ h_ => h_.1)))); (case side2 => exact (Kd.S_reads' HO347.out).2.1); rintro e w17 ⟨rfl, hb⟩; have n0_ := Aside0.mk (Kd.S_below (by refine sS ?_; exact (Kd.S_mono (Kd.S_far (p := ⟨gb355, 3, none⟩) (Kd.S_far (p := ⟨gb355, 2, none⟩) (Kd.S_far (p := ⟨gb355, 1, none⟩) (Kd.S_far (p := ⟨gb355, 0, none⟩) (Kd.S_types HO347.out BK355.out (by decide)) (fun _ hk => hk.2) (.int .i64 t350)) (fun _ hk => hk.2) (.int .i64 t351)) (fun _ hk => hk.2) (.int .i64 t352)) (fun _ hk => hk.2) (.string t353)) (fun _ h_ => h_.1))) hb); have n1_ := Aside0.mk (blk_below (g := gb349) (o := .cells #[.slice Ao10 t345.length co10] 24 (0, 0)) (by refine sB ?_; refine blk_far ?_ NB349_355.out _; refine sB ?_; refine blk_far ?_ NB349_355.out _; refine sB ?_; refine blk_far ?_ NB349_355.out _; refine sB ?_; refine blk_far ?_ NB349_355.out _; refine sB ?_; exact BK349.out) hb); have n2_ := Aside0.mk (blk_below (g := gb355) (o := .cells #[.int .i64 t350, .int .i64 t351, .int .i64 t352, .string t353] 35 (0, 0)) (by refine sB ?_; refine blk_put (cs := #[.int .i64 t350, .int .i64 t351, .int .i64 t352, .string (⟨#[]⟩ : ByteArray)]) ?_ 3 _ rfl; refine sB ?_; refine blk_put (cs := #[.int .i64 t350, .int .i64 t351, .int .i64 0, .string (⟨#[]⟩ : ByteArray)]) ?_ 2 _ rfl; refine sB ?_; refine blk_put (cs := #[.int .i64 t350, .int .i64 0, .int .i64 0, .string (⟨#[]⟩ : ByteArray)]) ?_ 1 _ rfl; refine sB ?_; refine blk_put (cs := #[.int .i64 0, .int .i64 0, .int .i64 0, .string (⟨#[]⟩ : ByteArray)]) ?_ 0 _ rfl; refine sB ?_; exact BK355.out) hb); have n3_ := Aside0.mk (below_step (sL2 HB.out GE349.out GE355.out) hb); clear HO347; clear BK349; clear BK355; clear HB; have HO347 := n0_; have BK349 := n1_; have BK355 := n2_; have HB := n3_; clear n0_ n1_ n2_ n3_; (try clear hb); (try clear hb2); (try clear hk); (try clear hi)));go_ret;exact ⟨by first | rfl | (simp [errW_none, errW_some] <;> rfl) | (simp [*, errW_none, errW_some] <;> rfl), sL2 HB.out GE349.out GE355.out⟩
  ·replace c6 := Bool.eq_false_iff.mpr c6;subst c6;(have H1 : (some false) = some r := by rw [if_neg (show ¬ (false = true) by decide)] at H; exact H);clear H;have H := H1;clear H1;obtain rfl := Option.some.inj H;(go_enter Tryz.func34, Tryz.ntmps34);go_wp2_with (first | ((with_reducible refine gate_callee (f := 12) rfl ?_); refine goesL_ (some 11) rfl rfl Tryz.func12 (by kernel_rfl) rfl #[.string a0] rfl sM ?_; (with_reducible refine (span_Parse.calls k a0 t345 true _ A3.out (sH hLD HB.out)).mono ?_); rintro e w18 ⟨v346, rfl, ho0, hb⟩; refine ⟨_, rfl, ?_⟩; have n0_ := Aside0.mk (Kd.S_lower ho0 (below_size (sL HB.out))); have n1_ := Aside0.mk (below_step (sL HB.out) hb); clear HB; have HO347 := n0_; have HB := n1_; clear n0_ n1_; (try clear hb); (try clear hb2); (try clear hk); (try clear hi); (try clear ho0)) | ((with_reducible refine gate_dst (N := 5) rfl ?_); refine box_event ?hg (N := 5) ?hd (cs := #[.slice none 0 0]) (t := 24) ?hr ?_; (case hd => rfl); (case hg => rfl); (case hr => first | (go_simp; done) | (go_simp; rfl)); intro gb349 hg w19 hbox hb; have n0_ := Aside0.mk (Kd.S_below (sS HO347.out) hb); have n1_ := Aside0.mk (below_step (sL HB.out) hb); have n2_ := Aside0.mk (hbox); have n3_ := Aside0.mk ((by rw [hg]; exact (below_size (sL HB.out)) : w.heap.size ≤ gb349)); have n4_ := Aside0.mk ((by rw [hg]; exact (below_size (sL HB.out)) : w.heap.size ≤ gb349)); clear HO347; clear HB; have HO347 := n0_; have HB := n1_; have BK349 := n2_; have GW349 := n3_; have GE349 := n4_; clear n0_ n1_ n2_ n3_ n4_; clear hb hbox hg; obtain ⟨Ao20, co20, eo20⟩ := Kd.S_slice HO347.out; subst eo20; have hcz21_0 : w19.cell? ⟨gb349, 0, none⟩ = some (.slice none 0 0) := (blk_cell BK349.out 0).trans rfl; have hfz21_0 := blk_frozen BK349.out 0) | ((with_reducible refine gate_callee (f := 44) rfl ?_); refine goesL_ (some 16) rfl rfl Tryz.func44 (by kernel_rfl) rfl #[.string a1] rfl sM ?_; (with_reducible refine (version_Parse.calls k a1 t350 t351 t352 t353 false _ A4.out (sH hLD HB.out)).mono ?_); rintro e w22 ⟨rfl, hb⟩; refine ⟨_, rfl, ?_⟩; have n0_ := Aside0.mk (Kd.S_below (by refine sS ?_; exact (Kd.S_mono (Kd.S_far (p := ⟨gb349, 0, none⟩) (Kd.S_types HO347.out BK349.out (by decide)) (fun _ hk => hk.2) (.slice Ao20 t345.length co20)) (fun _ h_ => h_.1))) hb); have n1_ := Aside0.mk (blk_below (g := gb349) (o := .cells #[.slice Ao20 t345.length co20] 24 (0, 0)) (by refine sB ?_; refine blk_put (cs := #[.slice none 0 0]) ?_ 0 _ rfl; refine sB ?_; exact BK349.out) hb); have n2_ := Aside0.mk (below_step (sL1 HB.out GE349.out) hb); clear HO347; clear BK349; clear HB; have HO347 := n0_; have BK349 := n1_; have HB := n2_; clear n0_ n1_ n2_; (try clear hb); (try clear hb2); (try clear hk); (try clear hi)) | ((with_reducible refine gate_dst (N := 7) rfl ?_); refine box_event ?hg (N := 7) ?hd (cs := #[.int .i64 0, .int .i64 0, .int .i64 0, .string (⟨#[]⟩ : ByteArray)]) (t := 35) ?hr ?_; (case hd => rfl); (case hg => rfl); (case hr => first | (go_simp; done) | (go_simp; rfl)); intro gb355 hg w23 hbox hb; have n0_ := Aside0.mk (Kd.S_below (sS HO347.out) hb); have n1_ := Aside0.mk (blk_below (g := gb349) (o := .cells #[.slice Ao20 t345.length co20] 24 (0, 0)) (sB BK349.out) hb); have n2_ := Aside0.mk (below_step (sL1 HB.out GE349.out) hb); have n3_ := Aside0.mk (hbox); have n4_ := Aside0.mk ((by rw [hg]; exact (below_size (sL1 HB.out GE349.out)) : w.heap.size ≤ gb355)); have n5_ := Aside0.mk ((by rw [hg]; exact (below_size (sL1 HB.out GE349.out)) : w.heap.size ≤ gb355)); have n6_ := Aside0.mk ((by rw [hg]; exact Nat.ne_of_lt (blk_lt (g := gb349) (o := .cells #[.slice Ao20 t345.length co20] 24 (0, 0)) (sB BK349.out)) : gb349 ≠ gb355)); have n7_ := Aside0.mk ((by rw [hg]; exact Nat.ne_of_gt (blk_lt (g := gb349) (o := .cells #[.slice Ao20 t345.length co20] 24 (0, 0)) (sB BK349.out)) : gb355 ≠ gb349)); clear HO347; clear BK349; clear HB; have HO347 := n0_; have BK349 := n1_; have HB := n2_; have BK355 := n3_; have GW355 := n4_; have GE355 := n5_; have NB349_355 := n6_; have NB355_349 := n7_; clear n0_ n1_ n2_ n3_ n4_ n5_ n6_ n7_; clear hb hbox hg; have hnb24 := NB355_349.out; have hnc24 := NB349_355.out; have hcz25_0 : w23.cell? ⟨gb355, 0, none⟩ = some (.int .i64 0) := (blk_cell BK355.out 0).trans rfl; have hcz25_1 : w23.cell? ⟨gb355, 1, none⟩ = some (.int .i64 0) := (blk_cell BK355.out 1).trans rfl; have hcz25_2 : w23.cell? ⟨gb355, 2, none⟩ = some (.int .i64 0) := (blk_cell BK355.out 2).trans rfl; have hcz25_3 : w23.cell? ⟨gb355, 3, none⟩ = some (.string (⟨#[]⟩ : ByteArray)) := (blk_cell BK355.out 3).trans rfl; have hfz25_0 := blk_frozen BK355.out 0; have hfz25_1 := blk_frozen BK355.out 1; have hfz25_2 := blk_frozen BK355.out 2; have hfz25_3 := blk_frozen BK355.out 3));go_ret;exact ⟨by first | rfl | (simp [errW_none, errW_some] <;> rfl) | (simp [*, errW_none, errW_some] <;> rfl), sL2 HB.out GE349.out GE355.out⟩
 ·replace c5 := Bool.eq_false_iff.mpr c5;subst c5;(have H1 : (some false) = some r := by rw [if_neg (show ¬ (false = true) by decide)] at H; exact H);clear H;have H := H1;clear H1;obtain rfl := Option.some.inj H;(go_enter Tryz.func34, Tryz.ntmps34);go_wp2_with (first | ((with_reducible refine gate_callee (f := 12) rfl ?_); refine goesL_ (some 11) rfl rfl Tryz.func12 (by kernel_rfl) rfl #[.string a0] rfl sM ?_; (with_reducible refine (span_Parse.calls k a0 t345 false _ A3.out (sH hLD HB.out)).mono ?_); rintro e w26 ⟨v346, rfl, ho0, hb⟩; refine ⟨_, rfl, ?_⟩; have n0_ := Aside0.mk (Kd.S_lower ho0 (below_size (sL HB.out))); have n1_ := Aside0.mk (below_step (sL HB.out) hb); clear HB; have HO347 := n0_; have HB := n1_; clear n0_ n1_; (try clear hb); (try clear hb2); (try clear hk); (try clear hi); (try clear ho0)) | ((with_reducible refine gate_dst (N := 5) rfl ?_); refine box_event ?hg (N := 5) ?hd (cs := #[.slice none 0 0]) (t := 24) ?hr ?_; (case hd => rfl); (case hg => rfl); (case hr => first | (go_simp; done) | (go_simp; rfl)); intro gb349 hg w27 hbox hb; have n0_ := Aside0.mk (Kd.S_below (sS HO347.out) hb); have n1_ := Aside0.mk (below_step (sL HB.out) hb); have n2_ := Aside0.mk (hbox); have n3_ := Aside0.mk ((by rw [hg]; exact (below_size (sL HB.out)) : w.heap.size ≤ gb349)); have n4_ := Aside0.mk ((by rw [hg]; exact (below_size (sL HB.out)) : w.heap.size ≤ gb349)); clear HO347; clear HB; have HO347 := n0_; have HB := n1_; have BK349 := n2_; have GW349 := n3_; have GE349 := n4_; clear n0_ n1_ n2_ n3_ n4_; clear hb hbox hg; obtain ⟨Ao28, co28, eo28⟩ := Kd.S_slice HO347.out; subst eo28; have hcz29_0 : w27.cell? ⟨gb349, 0, none⟩ = some (.slice none 0 0) := (blk_cell BK349.out 0).trans rfl; have hfz29_0 := blk_frozen BK349.out 0) | ((with_reducible refine gate_callee (f := 44) rfl ?_); refine goesL_ (some 16) rfl rfl Tryz.func44 (by kernel_rfl) rfl #[.string a1] rfl sM ?_; (with_reducible refine (version_Parse.calls k a1 t350 t351 t352 t353 t354 _ A4.out (sH hLD HB.out)).mono ?_); rintro e w30 ⟨rfl, hb⟩; refine ⟨_, rfl, ?_⟩; have n0_ := Aside0.mk (Kd.S_below (by refine sS ?_; exact (Kd.S_mono (Kd.S_far (p := ⟨gb349, 0, none⟩) (Kd.S_types HO347.out BK349.out (by decide)) (fun _ hk => hk.2) (.slice Ao28 t345.length co28)) (fun _ h_ => h_.1))) hb); have n1_ := Aside0.mk (blk_below (g := gb349) (o := .cells #[.slice Ao28 t345.length co28] 24 (0, 0)) (by refine sB ?_; refine blk_put (cs := #[.slice none 0 0]) ?_ 0 _ rfl; refine sB ?_; exact BK349.out) hb); have n2_ := Aside0.mk (below_step (sL1 HB.out GE349.out) hb); clear HO347; clear BK349; clear HB; have HO347 := n0_; have BK349 := n1_; have HB := n2_; clear n0_ n1_ n2_; (try clear hb); (try clear hb2); (try clear hk); (try clear hi)) | ((with_reducible refine gate_dst (N := 7) rfl ?_); refine box_event ?hg (N := 7) ?hd (cs := #[.int .i64 0, .int .i64 0, .int .i64 0, .string (⟨#[]⟩ : ByteArray)]) (t := 35) ?hr ?_; (case hd => rfl); (case hg => rfl); (case hr => first | (go_simp; done) | (go_simp; rfl)); intro gb355 hg w31 hbox hb; have n0_ := Aside0.mk (Kd.S_below (sS HO347.out) hb); have n1_ := Aside0.mk (blk_below (g := gb349) (o := .cells #[.slice Ao28 t345.length co28] 24 (0, 0)) (sB BK349.out) hb); have n2_ := Aside0.mk (below_step (sL1 HB.out GE349.out) hb); have n3_ := Aside0.mk (hbox); have n4_ := Aside0.mk ((by rw [hg]; exact (below_size (sL1 HB.out GE349.out)) : w.heap.size ≤ gb355)); have n5_ := Aside0.mk ((by rw [hg]; exact (below_size (sL1 HB.out GE349.out)) : w.heap.size ≤ gb355)); have n6_ := Aside0.mk ((by rw [hg]; exact Nat.ne_of_lt (blk_lt (g := gb349) (o := .cells #[.slice Ao28 t345.length co28] 24 (0, 0)) (sB BK349.out)) : gb349 ≠ gb355)); have n7_ := Aside0.mk ((by rw [hg]; exact Nat.ne_of_gt (blk_lt (g := gb349) (o := .cells #[.slice Ao28 t345.length co28] 24 (0, 0)) (sB BK349.out)) : gb355 ≠ gb349)); clear HO347; clear BK349; clear HB; have HO347 := n0_; have BK349 := n1_; have HB := n2_; have BK355 := n3_; have GW355 := n4_; have GE355 := n5_; have NB349_355 := n6_; have NB355_349 := n7_; clear n0_ n1_ n2_ n3_ n4_ n5_ n6_ n7_; clear hb hbox hg; have hnb32 := NB355_349.out; have hnc32 := NB349_355.out; have hcz33_0 : w31.cell? ⟨gb355, 0, none⟩ = some (.int .i64 0) := (blk_cell BK355.out 0).trans rfl; have hcz33_1 : w31.cell? ⟨gb355, 1, none⟩ = some (.int .i64 0) := (blk_cell BK355.out 1).trans rfl; have hcz33_2 : w31.cell? ⟨gb355, 2, none⟩ = some (.int .i64 0) := (blk_cell BK355.out 2).trans rfl; have hcz33_3 : w31.cell? ⟨gb355, 3, none⟩ = some (.string (⟨#[]⟩ : ByteArray)) := (blk_cell BK355.out 3).trans rfl; have hfz33_0 := blk_frozen BK355.out 0; have hfz33_1 := blk_frozen BK355.out 1; have hfz33_2 := blk_frozen BK355.out 2; have hfz33_3 := blk_frozen BK355.out 3));go_ret;exact ⟨by first | rfl | (simp [errW_none, errW_some] <;> rfl) | (simp [*, errW_none, errW_some] <;> rfl), sL2 HB.out GE349.out GE355.out⟩
def hoggetlaw05_spans.j0 : Nat → Bool → Option (Bool)
  | 0, _ => none
  | k + 1, x1 => if x1 = true then ((hoggetlaw05_holds.f k (⟨#[94, 49, 46, 50, 46, 51]⟩ : ByteArray) (⟨#[49, 46, 50, 46, 52, 45, 97]⟩ : ByteArray)).bind fun t363 => (if t363 = true then (none) else ((hoggetlaw05_holds.f k (⟨#[94, 49, 46, 50, 46, 51]⟩ : ByteArray) (⟨#[49, 46, 57, 46, 48]⟩ : ByteArray)).bind fun t364 => (if t364 = true then ((hoggetlaw05_holds.f k (⟨#[62, 61, 49, 46, 50, 46, 51, 45, 97]⟩ : ByteArray) (⟨#[49, 46, 50, 46, 51, 45, 98]⟩ : ByteArray)).bind fun t365 => (if t365 = true then ((hoggetlaw05_word.f k (⟨#[49, 46, 48]⟩ : ByteArray)).bind fun t366 => (if t366.toList = ([110, 111, 110, 101] : List UInt8) then ((hoggetlaw05_word.f k (⟨#[94, 57, 57, 57, 57, 57, 57, 46, 48, 46, 48]⟩ : ByteArray)).bind fun t367 => (some (t367.toList == ([110, 111, 110, 101] : List UInt8)))) else (none))) else (none))) else (none))))) else (none)
def hoggetlaw05_spans.f (k : Nat)  : Option (Bool) := (hoggetlaw05_word.f k (⟨#[94, 49, 46, 50, 46, 51]⟩ : ByteArray)).bind fun t357 => (if t357.toList = ([62, 61, 49, 46, 50, 46, 51, 32, 60, 50, 46, 48, 46, 48] : List UInt8) then ((hoggetlaw05_word.f k (⟨#[94, 48, 46, 50, 46, 51]⟩ : ByteArray)).bind fun t358 => (if t358.toList = ([62, 61, 48, 46, 50, 46, 51, 32, 60, 48, 46, 51, 46, 48] : List UInt8) then ((hoggetlaw05_word.f k (⟨#[94, 48, 46, 48, 46, 51]⟩ : ByteArray)).bind fun t359 => (if t359.toList = ([62, 61, 48, 46, 48, 46, 51, 32, 60, 48, 46, 48, 46, 52] : List UInt8) then ((hoggetlaw05_word.f k (⟨#[126, 49, 46, 50, 46, 51]⟩ : ByteArray)).bind fun t360 => (if t360.toList = ([62, 61, 49, 46, 50, 46, 51, 32, 60, 49, 46, 51, 46, 48] : List UInt8) then ((hoggetlaw05_word.f k (⟨#[]⟩ : ByteArray)).bind fun t361 => (if t361.toList = ([42] : List UInt8) then ((hoggetlaw05_word.f k (⟨#[49, 46, 48, 46, 48, 124, 124, 62, 50, 46, 48, 46, 48, 32, 42]⟩ : ByteArray)).bind fun t362 => (hoggetlaw05_spans.j0 k (t362.toList == ([61, 49, 46, 48, 46, 48, 32, 124, 124, 32, 62, 50, 46, 48, 46, 48] : List UInt8)))) else (hoggetlaw05_spans.j0 k false))) else (hoggetlaw05_spans.j0 k false))) else (hoggetlaw05_spans.j0 k false))) else (hoggetlaw05_spans.j0 k false))) else (hoggetlaw05_spans.j0 k false))
theorem hoggetlaw05_spans.calls (k : Nat)  (r : Bool) (w : World) (h : hoggetlaw05_spans.f k  = some r) (hLD : LD w) :
 Calls Tryz.prog 16 #[] w fun e w' => e = .returned (.bool r) ∧ Below w.heap.size w w' := by
 have HB := Aside0.mk (Below.refl w.heap.size w);have H : ((hoggetlaw05_word.f k (⟨#[94, 49, 46, 50, 46, 51]⟩ : ByteArray)).bind fun t357 => (if t357.toList = ([62, 61, 49, 46, 50, 46, 51, 32, 60, 50, 46, 48, 46, 48] : List UInt8) then ((hoggetlaw05_word.f k (⟨#[94, 48, 46, 50, 46, 51]⟩ : ByteArray)).bind fun t358 => (if t358.toList = ([62, 61, 48, 46, 50, 46, 51, 32, 60, 48, 46, 51, 46, 48] : List UInt8) then ((hoggetlaw05_word.f k (⟨#[94, 48, 46, 48, 46, 51]⟩ : ByteArray)).bind fun t359 => (if t359.toList = ([62, 61, 48, 46, 48, 46, 51, 32, 60, 48, 46, 48, 46, 52] : List UInt8) then ((hoggetlaw05_word.f k (⟨#[126, 49, 46, 50, 46, 51]⟩ : ByteArray)).bind fun t360 => (if t360.toList = ([62, 61, 49, 46, 50, 46, 51, 32, 60, 49, 46, 51, 46, 48] : List UInt8) then ((hoggetlaw05_word.f k (⟨#[]⟩ : ByteArray)).bind fun t361 => (if t361.toList = ([42] : List UInt8) then ((hoggetlaw05_word.f k (⟨#[49, 46, 48, 46, 48, 124, 124, 62, 50, 46, 48, 46, 48, 32, 42]⟩ : ByteArray)).bind fun t362 => (hoggetlaw05_spans.j0 k (t362.toList == ([61, 49, 46, 48, 46, 48, 32, 124, 124, 32, 62, 50, 46, 48, 46, 48] : List UInt8)))) else (hoggetlaw05_spans.j0 k false))) else (hoggetlaw05_spans.j0 k false))) else (hoggetlaw05_spans.j0 k false))) else (hoggetlaw05_spans.j0 k false))) else (hoggetlaw05_spans.j0 k false))) = some r := h;clear h;have HC1 := Aside0.mk H;clear H;(go_enter Tryz.func16, Tryz.ntmps16);(go_upto_region 1 with (fail));go_cut [1] (fun v1 wc => ∃ (kq : Nat) (x1_0 : Bool), v1 = .bool x1_0 ∧ Aside0 (hoggetlaw05_spans.j0 kq x1_0 = some r) ∧ Aside0 (kq ≤ k) ∧ Aside0 (Below w.heap.size w wc))
 case first =>
  have H := HC1.out;clear HC1;replace H := Option.bind_eq_some_iff.mp H;obtain ⟨t357, A20, H⟩ := H;have A2 := Aside0.mk A20;clear A20;by_cases c3 : t357.toList = ([62, 61, 49, 46, 50, 46, 51, 32, 60, 50, 46, 48, 46, 48] : List UInt8)
  ·rw [if_pos c3] at H;have c3b0 := beq_iff_eq.mpr c3;have c3b1 := bne_eq_false_iff_eq.mpr c3;clear c3;(first | rw [c3b0] | (simp only [i64_w, i32_w]; rw [c3b0]) | skip);replace H := Option.bind_eq_some_iff.mp H;obtain ⟨t358, A40, H⟩ := H;have A4 := Aside0.mk A40;clear A40;by_cases c5 : t358.toList = ([62, 61, 48, 46, 50, 46, 51, 32, 60, 48, 46, 51, 46, 48] : List UInt8)
   ·rw [if_pos c5] at H;have c5b0 := beq_iff_eq.mpr c5;have c5b1 := bne_eq_false_iff_eq.mpr c5;clear c5;replace H := Option.bind_eq_some_iff.mp H;obtain ⟨t359, A60, H⟩ := H;have A6 := Aside0.mk A60;clear A60;by_cases c7 : t359.toList = ([62, 61, 48, 46, 48, 46, 51, 32, 60, 48, 46, 48, 46, 52] : List UInt8)
    ·rw [if_pos c7] at H;have c7b0 := beq_iff_eq.mpr c7;have c7b1 := bne_eq_false_iff_eq.mpr c7;clear c7;replace H := Option.bind_eq_some_iff.mp H;obtain ⟨t360, A80, H⟩ := H;have A8 := Aside0.mk A80;clear A80;by_cases c9 : t360.toList = ([62, 61, 49, 46, 50, 46, 51, 32, 60, 49, 46, 51, 46, 48] : List UInt8)
     ·rw [if_pos c9] at H;have c9b0 := beq_iff_eq.mpr c9;have c9b1 := bne_eq_false_iff_eq.mpr c9;clear c9;replace H := Option.bind_eq_some_iff.mp H;obtain ⟨t361, A100, H⟩ := H;have A10 := Aside0.mk A100;clear A100;by_cases c11 : t361.toList = ([42] : List UInt8)
      ·rw [if_pos c11] at H;have c11b0 := beq_iff_eq.mpr c11;have c11b1 := bne_eq_false_iff_eq.mpr c11;clear c11;replace H := Option.bind_eq_some_iff.mp H;obtain ⟨t362, A120, H⟩ := H;have A12 := Aside0.mk A120;clear A120;have H' := Aside0.mk H;clear H;go_wp2_with (first | ((with_reducible refine gate_callee (f := 33) rfl ?_); refine goesL_ (some 2) rfl rfl Tryz.func33 (by kernel_rfl) rfl #[.string (⟨#[94, 49, 46, 50, 46, 51]⟩ : ByteArray)] rfl sM ?_; (with_reducible refine (hoggetlaw05_word.calls k (⟨#[94, 49, 46, 50, 46, 51]⟩ : ByteArray) t357 _ A2.out (sH hLD HB.out)).mono ?_); rintro e w13 ⟨rfl, hb⟩; refine ⟨_, rfl, ?_⟩; have n0_ := Aside0.mk (below_step (sL HB.out) hb); clear HB; have HB := n0_; clear n0_; (try clear hb); (try clear hb2); (try clear hk); (try clear hi)) | (go_at_call 33; (with_reducible refine (hoggetlaw05_word.calls k (⟨#[94, 48, 46, 50, 46, 51]⟩ : ByteArray) t358 _ A4.out (sH hLD HB.out)).mono ?_); rintro e w14 ⟨rfl, hb⟩; have n0_ := Aside0.mk (below_step (sL HB.out) hb); clear HB; have HB := n0_; clear n0_; (try clear hb); (try clear hb2); (try clear hk); (try clear hi)) | (go_at_call 33; (with_reducible refine (hoggetlaw05_word.calls k (⟨#[94, 48, 46, 48, 46, 51]⟩ : ByteArray) t359 _ A6.out (sH hLD HB.out)).mono ?_); rintro e w15 ⟨rfl, hb⟩; have n0_ := Aside0.mk (below_step (sL HB.out) hb); clear HB; have HB := n0_; clear n0_; (try clear hb); (try clear hb2); (try clear hk); (try clear hi)) | (go_at_call 33; (with_reducible refine (hoggetlaw05_word.calls k (⟨#[126, 49, 46, 50, 46, 51]⟩ : ByteArray) t360 _ A8.out (sH hLD HB.out)).mono ?_); rintro e w16 ⟨rfl, hb⟩; have n0_ := Aside0.mk (below_step (sL HB.out) hb); clear HB; have HB := n0_; clear n0_; (try clear hb); (try clear hb2); (try clear hk); (try clear hi)) | (go_at_call 33; (with_reducible refine (hoggetlaw05_word.calls k (⟨#[]⟩ : ByteArray) t361 _ A10.out (sH hLD HB.out)).mono ?_); rintro e w17 ⟨rfl, hb⟩; have n0_ := Aside0.mk (below_step (sL HB.out) hb); clear HB; have HB := n0_; clear n0_; (try clear hb); (try clear hb2); (try clear hk); (try clear hi)) | (go_at_call 33; (with_reducible refine (hoggetlaw05_word.calls k (⟨#[49, 46, 48, 46, 48, 124, 124, 62, 50, 46, 48, 46, 48, 32, 42]⟩ : ByteArray) t362 _ A12.out (sH hLD HB.out)).mono ?_); rintro e w18 ⟨rfl, hb⟩; have n0_ := Aside0.mk (below_step (sL HB.out) hb); clear HB; have HB := n0_; clear n0_; (try clear hb); (try clear hb2); (try clear hk); (try clear hi)));go_meet;(case rel => exact ⟨_, ((t362.toList == ([61, 49, 46, 48, 46, 48, 32, 124, 124, 32, 62, 50, 46, 48, 46, 48] : List UInt8))), sE, H', ⟨by first | omega | exact Nat.le_refl _⟩, ⟨sL HB.out⟩⟩)
      ·rw [if_neg c11] at H;have c11b0 := beq_eq_false_iff_ne.mpr c11;have c11b1 := bne_iff_ne.mpr c11;have H' := Aside0.mk H;clear H;go_wp2_with (first | ((with_reducible refine gate_callee (f := 33) rfl ?_); refine goesL_ (some 2) rfl rfl Tryz.func33 (by kernel_rfl) rfl #[.string (⟨#[94, 49, 46, 50, 46, 51]⟩ : ByteArray)] rfl sM ?_; (with_reducible refine (hoggetlaw05_word.calls k (⟨#[94, 49, 46, 50, 46, 51]⟩ : ByteArray) t357 _ A2.out (sH hLD HB.out)).mono ?_); rintro e w19 ⟨rfl, hb⟩; refine ⟨_, rfl, ?_⟩; have n0_ := Aside0.mk (below_step (sL HB.out) hb); clear HB; have HB := n0_; clear n0_; (try clear hb); (try clear hb2); (try clear hk); (try clear hi)) | (go_at_call 33; (with_reducible refine (hoggetlaw05_word.calls k (⟨#[94, 48, 46, 50, 46, 51]⟩ : ByteArray) t358 _ A4.out (sH hLD HB.out)).mono ?_); rintro e w20 ⟨rfl, hb⟩; have n0_ := Aside0.mk (below_step (sL HB.out) hb); clear HB; have HB := n0_; clear n0_; (try clear hb); (try clear hb2); (try clear hk); (try clear hi)) | (go_at_call 33; (with_reducible refine (hoggetlaw05_word.calls k (⟨#[94, 48, 46, 48, 46, 51]⟩ : ByteArray) t359 _ A6.out (sH hLD HB.out)).mono ?_); rintro e w21 ⟨rfl, hb⟩; have n0_ := Aside0.mk (below_step (sL HB.out) hb); clear HB; have HB := n0_; clear n0_; (try clear hb); (try clear hb2); (try clear hk); (try clear hi)) | (go_at_call 33; (with_reducible refine (hoggetlaw05_word.calls k (⟨#[126, 49, 46, 50, 46, 51]⟩ : ByteArray) t360 _ A8.out (sH hLD HB.out)).mono ?_); rintro e w22 ⟨rfl, hb⟩; have n0_ := Aside0.mk (below_step (sL HB.out) hb); clear HB; have HB := n0_; clear n0_; (try clear hb); (try clear hb2); (try clear hk); (try clear hi)) | (go_at_call 33; (with_reducible refine (hoggetlaw05_word.calls k (⟨#[]⟩ : ByteArray) t361 _ A10.out (sH hLD HB.out)).mono ?_); rintro e w23 ⟨rfl, hb⟩; have n0_ := Aside0.mk (below_step (sL HB.out) hb); clear HB; have HB := n0_; clear n0_; (try clear hb); (try clear hb2); (try clear hk); (try clear hi)));go_meet;(case rel => exact ⟨_, (false), sE, H', ⟨by first | omega | exact Nat.le_refl _⟩, ⟨sL HB.out⟩⟩)
     ·rw [if_neg c9] at H;have c9b0 := beq_eq_false_iff_ne.mpr c9;have c9b1 := bne_iff_ne.mpr c9;have H' := Aside0.mk H;clear H;go_wp2_with (first | ((with_reducible refine gate_callee (f := 33) rfl ?_); refine goesL_ (some 2) rfl rfl Tryz.func33 (by kernel_rfl) rfl #[.string (⟨#[94, 49, 46, 50, 46, 51]⟩ : ByteArray)] rfl sM ?_; (with_reducible refine (hoggetlaw05_word.calls k (⟨#[94, 49, 46, 50, 46, 51]⟩ : ByteArray) t357 _ A2.out (sH hLD HB.out)).mono ?_); rintro e w24 ⟨rfl, hb⟩; refine ⟨_, rfl, ?_⟩; have n0_ := Aside0.mk (below_step (sL HB.out) hb); clear HB; have HB := n0_; clear n0_; (try clear hb); (try clear hb2); (try clear hk); (try clear hi)) | (go_at_call 33; (with_reducible refine (hoggetlaw05_word.calls k (⟨#[94, 48, 46, 50, 46, 51]⟩ : ByteArray) t358 _ A4.out (sH hLD HB.out)).mono ?_); rintro e w25 ⟨rfl, hb⟩; have n0_ := Aside0.mk (below_step (sL HB.out) hb); clear HB; have HB := n0_; clear n0_; (try clear hb); (try clear hb2); (try clear hk); (try clear hi)) | (go_at_call 33; (with_reducible refine (hoggetlaw05_word.calls k (⟨#[94, 48, 46, 48, 46, 51]⟩ : ByteArray) t359 _ A6.out (sH hLD HB.out)).mono ?_); rintro e w26 ⟨rfl, hb⟩; have n0_ := Aside0.mk (below_step (sL HB.out) hb); clear HB; have HB := n0_; clear n0_; (try clear hb); (try clear hb2); (try clear hk); (try clear hi)) | (go_at_call 33; (with_reducible refine (hoggetlaw05_word.calls k (⟨#[126, 49, 46, 50, 46, 51]⟩ : ByteArray) t360 _ A8.out (sH hLD HB.out)).mono ?_); rintro e w27 ⟨rfl, hb⟩; have n0_ := Aside0.mk (below_step (sL HB.out) hb); clear HB; have HB := n0_; clear n0_; (try clear hb); (try clear hb2); (try clear hk); (try clear hi)));go_meet;(case rel => exact ⟨_, (false), sE, H', ⟨by first | omega | exact Nat.le_refl _⟩, ⟨sL HB.out⟩⟩)
    ·rw [if_neg c7] at H;have c7b0 := beq_eq_false_iff_ne.mpr c7;have c7b1 := bne_iff_ne.mpr c7;have H' := Aside0.mk H;clear H;go_wp2_with (first | ((with_reducible refine gate_callee (f := 33) rfl ?_); refine goesL_ (some 2) rfl rfl Tryz.func33 (by kernel_rfl) rfl #[.string (⟨#[94, 49, 46, 50, 46, 51]⟩ : ByteArray)] rfl sM ?_; (with_reducible refine (hoggetlaw05_word.calls k (⟨#[94, 49, 46, 50, 46, 51]⟩ : ByteArray) t357 _ A2.out (sH hLD HB.out)).mono ?_); rintro e w28 ⟨rfl, hb⟩; refine ⟨_, rfl, ?_⟩; have n0_ := Aside0.mk (below_step (sL HB.out) hb); clear HB; have HB := n0_; clear n0_; (try clear hb); (try clear hb2); (try clear hk); (try clear hi)) | (go_at_call 33; (with_reducible refine (hoggetlaw05_word.calls k (⟨#[94, 48, 46, 50, 46, 51]⟩ : ByteArray) t358 _ A4.out (sH hLD HB.out)).mono ?_); rintro e w29 ⟨rfl, hb⟩; have n0_ := Aside0.mk (below_step (sL HB.out) hb); clear HB; have HB := n0_; clear n0_; (try clear hb); (try clear hb2); (try clear hk); (try clear hi)) | (go_at_call 33; (with_reducible refine (hoggetlaw05_word.calls k (⟨#[94, 48, 46, 48, 46, 51]⟩ : ByteArray) t359 _ A6.out (sH hLD HB.out)).mono ?_); rintro e w30 ⟨rfl, hb⟩; have n0_ := Aside0.mk (below_step (sL HB.out) hb); clear HB; have HB := n0_; clear n0_; (try clear hb); (try clear hb2); (try clear hk); (try clear hi)));go_meet;(case rel => exact ⟨_, (false), sE, H', ⟨by first | omega | exact Nat.le_refl _⟩, ⟨sL HB.out⟩⟩)
   ·rw [if_neg c5] at H;have c5b0 := beq_eq_false_iff_ne.mpr c5;have c5b1 := bne_iff_ne.mpr c5;have H' := Aside0.mk H;clear H;go_wp2_with (first | ((with_reducible refine gate_callee (f := 33) rfl ?_); refine goesL_ (some 2) rfl rfl Tryz.func33 (by kernel_rfl) rfl #[.string (⟨#[94, 49, 46, 50, 46, 51]⟩ : ByteArray)] rfl sM ?_; (with_reducible refine (hoggetlaw05_word.calls k (⟨#[94, 49, 46, 50, 46, 51]⟩ : ByteArray) t357 _ A2.out (sH hLD HB.out)).mono ?_); rintro e w31 ⟨rfl, hb⟩; refine ⟨_, rfl, ?_⟩; have n0_ := Aside0.mk (below_step (sL HB.out) hb); clear HB; have HB := n0_; clear n0_; (try clear hb); (try clear hb2); (try clear hk); (try clear hi)) | (go_at_call 33; (with_reducible refine (hoggetlaw05_word.calls k (⟨#[94, 48, 46, 50, 46, 51]⟩ : ByteArray) t358 _ A4.out (sH hLD HB.out)).mono ?_); rintro e w32 ⟨rfl, hb⟩; have n0_ := Aside0.mk (below_step (sL HB.out) hb); clear HB; have HB := n0_; clear n0_; (try clear hb); (try clear hb2); (try clear hk); (try clear hi)));go_meet;(case rel => exact ⟨_, (false), sE, H', ⟨by first | omega | exact Nat.le_refl _⟩, ⟨sL HB.out⟩⟩)
  ·rw [if_neg c3] at H;have c3b0 := beq_eq_false_iff_ne.mpr c3;have c3b1 := bne_iff_ne.mpr c3;(first | rw [c3b0] | (simp only [i64_w, i32_w]; rw [c3b0]) | skip);have H' := Aside0.mk H;clear H;go_wp2_with (first | ((with_reducible refine gate_callee (f := 33) rfl ?_); refine goesL_ (some 2) rfl rfl Tryz.func33 (by kernel_rfl) rfl #[.string (⟨#[94, 49, 46, 50, 46, 51]⟩ : ByteArray)] rfl sM ?_; (with_reducible refine (hoggetlaw05_word.calls k (⟨#[94, 49, 46, 50, 46, 51]⟩ : ByteArray) t357 _ A2.out (sH hLD HB.out)).mono ?_); rintro e w33 ⟨rfl, hb⟩; refine ⟨_, rfl, ?_⟩; have n0_ := Aside0.mk (below_step (sL HB.out) hb); clear HB; have HB := n0_; clear n0_; (try clear hb); (try clear hb2); (try clear hk); (try clear hi)));go_meet;(case rel => exact ⟨_, (false), sE, H', ⟨by first | omega | exact Nat.le_refl _⟩, ⟨sL HB.out⟩⟩)
 case rest =>
  clear HC1;(try clear c1);(try clear p2);(try clear c3);(try clear c3b0);(try clear c3b1);(try clear c5);(try clear c5b0);(try clear c5b1);(try clear c7);(try clear c7b0);(try clear c7b1);(try clear c9);(try clear c9b0);(try clear c9b1);(try clear c11);(try clear c11b0);(try clear c11b1);(try clear c16);(try clear c33);obtain ⟨kq, x1_0, rfl, HA, HJ0, HB⟩ := hcut
  cases kq with
  | zero => exact absurd HA.out (by simp [hoggetlaw05_spans.j0])
  | succ kj0 =>
   have H := HA.out;clear HA;simp only [hoggetlaw05_spans.j0] at H;by_cases c34 : x1_0 = true
   ·subst c34;(have H1 : ((hoggetlaw05_holds.f kj0 (⟨#[94, 49, 46, 50, 46, 51]⟩ : ByteArray) (⟨#[49, 46, 50, 46, 52, 45, 97]⟩ : ByteArray)).bind fun t363 => (if t363 = true then (none) else ((hoggetlaw05_holds.f kj0 (⟨#[94, 49, 46, 50, 46, 51]⟩ : ByteArray) (⟨#[49, 46, 57, 46, 48]⟩ : ByteArray)).bind fun t364 => (if t364 = true then ((hoggetlaw05_holds.f kj0 (⟨#[62, 61, 49, 46, 50, 46, 51, 45, 97]⟩ : ByteArray) (⟨#[49, 46, 50, 46, 51, 45, 98]⟩ : ByteArray)).bind fun t365 => (if t365 = true then ((hoggetlaw05_word.f kj0 (⟨#[49, 46, 48]⟩ : ByteArray)).bind fun t366 => (if t366.toList = ([110, 111, 110, 101] : List UInt8) then ((hoggetlaw05_word.f kj0 (⟨#[94, 57, 57, 57, 57, 57, 57, 46, 48, 46, 48]⟩ : ByteArray)).bind fun t367 => (some (t367.toList == ([110, 111, 110, 101] : List UInt8)))) else (none))) else (none))) else (none))))) = some r := by rw [if_pos rfl] at H; exact H);clear H;have H := H1;clear H1;replace H := Option.bind_eq_some_iff.mp H;obtain ⟨t363, A350, H⟩ := H;have A35 := Aside0.mk A350;clear A350;by_cases c36 : t363 = true
    ·subst c36;(have H1 : (none) = some r := by rw [if_pos rfl] at H; exact H);clear H;have H := H1;clear H1;exact absurd H (by simp)
    ·replace c36 := Bool.eq_false_iff.mpr c36;subst c36;(have H1 : ((hoggetlaw05_holds.f kj0 (⟨#[94, 49, 46, 50, 46, 51]⟩ : ByteArray) (⟨#[49, 46, 57, 46, 48]⟩ : ByteArray)).bind fun t364 => (if t364 = true then ((hoggetlaw05_holds.f kj0 (⟨#[62, 61, 49, 46, 50, 46, 51, 45, 97]⟩ : ByteArray) (⟨#[49, 46, 50, 46, 51, 45, 98]⟩ : ByteArray)).bind fun t365 => (if t365 = true then ((hoggetlaw05_word.f kj0 (⟨#[49, 46, 48]⟩ : ByteArray)).bind fun t366 => (if t366.toList = ([110, 111, 110, 101] : List UInt8) then ((hoggetlaw05_word.f kj0 (⟨#[94, 57, 57, 57, 57, 57, 57, 46, 48, 46, 48]⟩ : ByteArray)).bind fun t367 => (some (t367.toList == ([110, 111, 110, 101] : List UInt8)))) else (none))) else (none))) else (none))) = some r := by rw [if_neg (show ¬ (false = true) by decide)] at H; exact H);clear H;have H := H1;clear H1;replace H := Option.bind_eq_some_iff.mp H;obtain ⟨t364, A380, H⟩ := H;have A38 := Aside0.mk A380;clear A380;by_cases c39 : t364 = true
     ·subst c39;(have H1 : ((hoggetlaw05_holds.f kj0 (⟨#[62, 61, 49, 46, 50, 46, 51, 45, 97]⟩ : ByteArray) (⟨#[49, 46, 50, 46, 51, 45, 98]⟩ : ByteArray)).bind fun t365 => (if t365 = true then ((hoggetlaw05_word.f kj0 (⟨#[49, 46, 48]⟩ : ByteArray)).bind fun t366 => (if t366.toList = ([110, 111, 110, 101] : List UInt8) then ((hoggetlaw05_word.f kj0 (⟨#[94, 57, 57, 57, 57, 57, 57, 46, 48, 46, 48]⟩ : ByteArray)).bind fun t367 => (some (t367.toList == ([110, 111, 110, 101] : List UInt8)))) else (none))) else (none))) = some r := by rw [if_pos rfl] at H; exact H);clear H;have H := H1;clear H1;replace H := Option.bind_eq_some_iff.mp H;obtain ⟨t365, A400, H⟩ := H;have A40 := Aside0.mk A400;clear A400;by_cases c41 : t365 = true
      ·subst c41;(have H1 : ((hoggetlaw05_word.f kj0 (⟨#[49, 46, 48]⟩ : ByteArray)).bind fun t366 => (if t366.toList = ([110, 111, 110, 101] : List UInt8) then ((hoggetlaw05_word.f kj0 (⟨#[94, 57, 57, 57, 57, 57, 57, 46, 48, 46, 48]⟩ : ByteArray)).bind fun t367 => (some (t367.toList == ([110, 111, 110, 101] : List UInt8)))) else (none))) = some r := by rw [if_pos rfl] at H; exact H);clear H;have H := H1;clear H1;replace H := Option.bind_eq_some_iff.mp H;obtain ⟨t366, A420, H⟩ := H;have A42 := Aside0.mk A420;clear A420;by_cases c43 : t366.toList = ([110, 111, 110, 101] : List UInt8)
       ·rw [if_pos c43] at H;have c43b0 := beq_iff_eq.mpr c43;have c43b1 := bne_eq_false_iff_eq.mpr c43;clear c43;replace H := Option.bind_eq_some_iff.mp H;obtain ⟨t367, A440, H⟩ := H;have A44 := Aside0.mk A440;clear A440;obtain rfl := Option.some.inj H;go_wp2_with (first | (go_at_call 34; (with_reducible refine (hoggetlaw05_holds.calls kj0 (⟨#[94, 49, 46, 50, 46, 51]⟩ : ByteArray) (⟨#[49, 46, 50, 46, 52, 45, 97]⟩ : ByteArray) false _ A35.out (sH hLD HB.out)).mono ?_); rintro e w45 ⟨rfl, hb⟩; have n0_ := Aside0.mk (below_step (sL HB.out) hb); clear HB; have HB := n0_; clear n0_; (try clear hb); (try clear hb2); (try clear hk); (try clear hi)) | (go_at_call 34; (with_reducible refine (hoggetlaw05_holds.calls kj0 (⟨#[94, 49, 46, 50, 46, 51]⟩ : ByteArray) (⟨#[49, 46, 57, 46, 48]⟩ : ByteArray) true _ A38.out (sH hLD HB.out)).mono ?_); rintro e w46 ⟨rfl, hb⟩; have n0_ := Aside0.mk (below_step (sL HB.out) hb); clear HB; have HB := n0_; clear n0_; (try clear hb); (try clear hb2); (try clear hk); (try clear hi)) | (go_at_call 34; (with_reducible refine (hoggetlaw05_holds.calls kj0 (⟨#[62, 61, 49, 46, 50, 46, 51, 45, 97]⟩ : ByteArray) (⟨#[49, 46, 50, 46, 51, 45, 98]⟩ : ByteArray) true _ A40.out (sH hLD HB.out)).mono ?_); rintro e w47 ⟨rfl, hb⟩; have n0_ := Aside0.mk (below_step (sL HB.out) hb); clear HB; have HB := n0_; clear n0_; (try clear hb); (try clear hb2); (try clear hk); (try clear hi)) | (go_at_call 33; (with_reducible refine (hoggetlaw05_word.calls kj0 (⟨#[49, 46, 48]⟩ : ByteArray) t366 _ A42.out (sH hLD HB.out)).mono ?_); rintro e w48 ⟨rfl, hb⟩; have n0_ := Aside0.mk (below_step (sL HB.out) hb); clear HB; have HB := n0_; clear n0_; (try clear hb); (try clear hb2); (try clear hk); (try clear hi)) | (go_at_call 33; (with_reducible refine (hoggetlaw05_word.calls kj0 (⟨#[94, 57, 57, 57, 57, 57, 57, 46, 48, 46, 48]⟩ : ByteArray) t367 _ A44.out (sH hLD HB.out)).mono ?_); rintro e w49 ⟨rfl, hb⟩; have n0_ := Aside0.mk (below_step (sL HB.out) hb); clear HB; have HB := n0_; clear n0_; (try clear hb); (try clear hb2); (try clear hk); (try clear hi)));go_ret;exact ⟨by first | rfl | (simp [errW_none, errW_some] <;> rfl) | (simp [*, errW_none, errW_some] <;> rfl), sL HB.out⟩
       ·rw [if_neg c43] at H;have c43b0 := beq_eq_false_iff_ne.mpr c43;have c43b1 := bne_iff_ne.mpr c43;exact absurd H (by simp)
      ·replace c41 := Bool.eq_false_iff.mpr c41;subst c41;(have H1 : (none) = some r := by rw [if_neg (show ¬ (false = true) by decide)] at H; exact H);clear H;have H := H1;clear H1;exact absurd H (by simp)
     ·replace c39 := Bool.eq_false_iff.mpr c39;subst c39;(have H1 : (none) = some r := by rw [if_neg (show ¬ (false = true) by decide)] at H; exact H);clear H;have H := H1;clear H1;exact absurd H (by simp)
   ·replace c34 := Bool.eq_false_iff.mpr c34;subst c34;(have H1 : (none) = some r := by rw [if_neg (show ¬ (false = true) by decide)] at H; exact H);clear H;have H := H1;clear H1;exact absurd H (by simp)
end Go.Proofs.YtijooffpjfhidaaGreatDoor.G
end
section
namespace Go.Proofs.YtijooffpjfhidaaGreatDoor.G
open Go.RowKit Go.Proofs.YtijooffpjfhidaaGreatDoorW.PrintWords Go.Proofs.YtijooffpjfhidaaGreatDoorW.PrintLast Go.Proofs.YtijooffpjfhidaaGreatDoorW.PrintMore
attribute [local go_sem] Go.Proofs.YtijooffpjfhidaaGreatDoor.Aid.gtr_string max2_int min2_int max_two min_two max_three min_three max_four min_four
set_option linter.unusedVariables false
set_option linter.unusedSimpArgs false
theorem eqA35 (d : Nat) (w : World) (x0 y0 : Int) (x1 y1 : Int) (x2 y2 : Int) (x3 y3 : ByteArray) :
    (Op.equalIn (d + 2) 35 (.agg #[.int .i64 x0, .int .i64 x1, .int .i64 x2, .string x3]) (.agg #[.int .i64 y0, .int .i64 y1, .int .i64 y2, .string y3])).run Tryz.prog w = .ok (x0 == y0 && (x1 == y1 && (x2 == y2 && (x3.toList == y3.toList)))) w := by
  refine eqA_of Tryz.underlying35 (by kernel_rfl) ?_
  refine eqf_cons (by rfl) (by go_simp; rfl) (by go_simp; rfl) (by go_simp) ?_
  refine eqf_cons (by rfl) (by go_simp; rfl) (by go_simp; rfl) (by go_simp) ?_
  refine eqf_cons (by rfl) (by go_simp; rfl) (by go_simp; rfl) (by go_simp) ?_
  exact eqf_last (by rfl) (by go_simp; rfl) (by go_simp; rfl) (by go_simp)
theorem eqA45 (d : Nat) (w : World) (x0 y0 : Int) (x1 y1 : Int) (x2 y2 : Int) (x3 y3 : Int) (x4 y4 : ByteArray) :
    (Op.equalIn (d + 3) 45 (.agg #[.int .i64 x0, .int .i64 x1, .int .i64 x2, .int .i64 x3, .string x4]) (.agg #[.int .i64 y0, .int .i64 y1, .int .i64 y2, .int .i64 y3, .string y4])).run Tryz.prog w = .ok (x0 == y0 && ((x1 == y1 && (x2 == y2 && (x3 == y3 && (x4.toList == y4.toList)))))) w := by
  refine eqA_of Tryz.underlying45 (by kernel_rfl) ?_
  refine eqf_cons (by rfl) (by go_simp; rfl) (by go_simp; rfl) (by go_simp) ?_
  exact eqf_last (by rfl) (by go_simp) (by go_simp) (eqA35 (d + 0) w _ _ _ _ _ _ _ _)
end Go.Proofs.YtijooffpjfhidaaGreatDoor.G
end
section
namespace Go.Proofs.YtijooffpjfhidaaGreatDoor.G
open Go.RowKit Go.Proofs.YtijooffpjfhidaaGreatDoorW.PrintWords Go.Proofs.YtijooffpjfhidaaGreatDoorW.PrintLast Go.Proofs.YtijooffpjfhidaaGreatDoorW.PrintMore
attribute [local go_sem] Go.Proofs.YtijooffpjfhidaaGreatDoor.Aid.gtr_string max2_int min2_int max_two min_two max_three min_three max_four min_four
set_option linter.unusedVariables false
set_option linter.unusedSimpArgs false
attribute [local go_sem high] eqA45
set_option maxHeartbeats 8000000
set_option maxRecDepth 100000
mutual
def hoggetref05_Same.l0 : Nat → Int → List (List (S45)) → List (List (S45)) → Option (Bool)
  | 0, _, _, _ => none
  | k + 1, x5, x369000, x370000 => if x5 < (x369000.length : Int) then (if 0 ≤ x5 then (if x5 < (x370000.length : Int) then (if ((rd_L4 x369000 x5).length : Int) = ((rd_L4 x370000 x5).length : Int) then (hoggetref05_Same.l1 k x5 0 x369000 x370000) else (some false)) else (none)) else (none)) else (some true)
def hoggetref05_Same.l1 : Nat → Int → Int → List (List (S45)) → List (List (S45)) → Option (Bool)
  | 0, _, _, _, _ => none
  | k + 1, x5, x6, x369000, x370000 => if 0 ≤ x5 then (if x5 < (x369000.length : Int) then (if x6 < ((rd_L4 x369000 x5).length : Int) then (if 0 ≤ x6 then (if x5 < (x370000.length : Int) then (if x6 < ((rd_L4 x370000 x5).length : Int) then (if (!(((rd_T45 (rd_L4 x369000 x5) x6).f0) == ((rd_T45 (rd_L4 x370000 x5) x6).f0)) || ((!(((rd_T45 (rd_L4 x369000 x5) x6).f1.f0) == ((rd_T45 (rd_L4 x370000 x5) x6).f1.f0)) || (!(((rd_T45 (rd_L4 x369000 x5) x6).f1.f1) == ((rd_T45 (rd_L4 x370000 x5) x6).f1.f1)) || (!(((rd_T45 (rd_L4 x369000 x5) x6).f1.f2) == ((rd_T45 (rd_L4 x370000 x5) x6).f1.f2)) || (!((((rd_T45 (rd_L4 x369000 x5) x6).f1.f3).toList) == (((rd_T45 (rd_L4 x370000 x5) x6).f1.f3).toList)))))))) = true then (some false) else (hoggetref05_Same.l1 k x5 (wrap64 (x6 + 1)) x369000 x370000)) else (none)) else (none)) else (none)) else (hoggetref05_Same.l0 k (wrap64 (x5 + 1)) x369000 x370000)) else (none)) else (none)
end
def hoggetref05_Same.f (k : Nat) (l0_0 : List (List (S45))) (l1_0 : List (List (S45))) : Option (Bool) := if (l0_0.length : Int) = (l1_0.length : Int) then (hoggetref05_Same.l0 k 0 l0_0 l1_0) else (some false)
theorem hoggetref05_Same.calls (k : Nat) (A0_0 : Option Addr) (c0_0 : Nat) (l0_0 : List (List (S45))) (A1_0 : Option Addr) (c1_0 : Nat) (l1_0 : List (List (S45))) (r : Bool) (w : World) (hr0_0 : Kd.C (Kd.slice 45 k45) w A0_0 l0_0.length l0_0) (hc0_0 : l0_0.length ≤ c0_0) (hr1_0 : Kd.C (Kd.slice 45 k45) w A1_0 l1_0.length l1_0) (hc1_0 : l1_0.length ≤ c1_0) (h : hoggetref05_Same.f k l0_0 l1_0 = some r) :
 Calls Tryz.prog 17 #[.agg #[.slice A0_0 l0_0.length c0_0], .agg #[.slice A1_0 l1_0.length c1_0]] w fun e w' => e = .returned (.bool r) ∧ Below w.heap.size w w' := by
 have hu24 := Tryz.underlying24;have hu45 := Tryz.underlying45;have HR0_0 := Aside0.mk hr0_0;have HC0_0 := Aside0.mk hc0_0;clear hr0_0 hc0_0;have HR1_0 := Aside0.mk hr1_0;have HC1_0 := Aside0.mk hc1_0;clear hr1_0 hc1_0;have HB := Aside0.mk (Below.refl w.heap.size w);have H : (if (l0_0.length : Int) = (l1_0.length : Int) then (hoggetref05_Same.l0 k 0 l0_0 l1_0) else (some false)) = some r := h;clear h;by_cases c3 : (l0_0.length : Int) = (l1_0.length : Int)
 ·rw [if_pos c3] at H;have c3b0 := beq_iff_eq.mpr c3;have c3b1 := bne_eq_false_iff_eq.mpr c3;(have c3b2 : (l0_0.length == l1_0.length) = true := by first | simpa using c3 | (simp at c3 ⊢; omega));clear c3;have H' := Aside0.mk H;clear H;(go_enter Tryz.func17, Tryz.ntmps17);go_wp2_with (first | ((with_reducible refine gate_dst (N := 2) rfl ?_); refine box_event ?hg (N := 2) ?hd (cs := #[.slice A0_0 l0_0.length c0_0]) (t := 24) ?hr ?_; (case hd => rfl); (case hg => rfl); (case hr => first | (go_simp; done) | (go_simp; rfl)); intro gb368 hg w4 hbox hb; have n0_ := Aside0.mk (below_step (sL HB.out) hb); have n1_ := Aside0.mk (hbox); have n2_ := Aside0.mk ((by rw [hg]; exact (below_size (sL HB.out)) : w.heap.size ≤ gb368)); have n3_ := Aside0.mk ((by rw [hg]; exact (below_size (sL HB.out)) : w.heap.size ≤ gb368)); clear HB; have HB := n0_; have BK368 := n1_; have GW368 := n2_; have GE368 := n3_; clear n0_ n1_ n2_ n3_; clear hb hbox hg) | ((with_reducible refine gate_dst (N := 3) rfl ?_); refine box_event ?hg (N := 3) ?hd (cs := #[.slice A1_0 l1_0.length c1_0]) (t := 24) ?hr ?_; (case hd => rfl); (case hg => rfl); (case hr => first | (go_simp; done) | (go_simp; rfl)); intro gb369 hg w5 hbox hb; have n0_ := Aside0.mk (blk_below (g := gb368) (o := .cells #[.slice A0_0 l0_0.length c0_0] 24 (0, 0)) (sB BK368.out) hb); have n1_ := Aside0.mk (below_step (sL1 HB.out GE368.out) hb); have n2_ := Aside0.mk (hbox); have n3_ := Aside0.mk ((by rw [hg]; exact (below_size (sL1 HB.out GE368.out)) : w.heap.size ≤ gb369)); have n4_ := Aside0.mk ((by rw [hg]; exact (below_size (sL1 HB.out GE368.out)) : w.heap.size ≤ gb369)); have n5_ := Aside0.mk ((by rw [hg]; exact Nat.ne_of_lt (blk_lt (g := gb368) (o := .cells #[.slice A0_0 l0_0.length c0_0] 24 (0, 0)) (sB BK368.out)) : gb368 ≠ gb369)); have n6_ := Aside0.mk ((by rw [hg]; exact Nat.ne_of_gt (blk_lt (g := gb368) (o := .cells #[.slice A0_0 l0_0.length c0_0] 24 (0, 0)) (sB BK368.out)) : gb369 ≠ gb368)); clear BK368; clear HB; have BK368 := n0_; have HB := n1_; have BK369 := n2_; have GW369 := n3_; have GE369 := n4_; have NB368_369 := n5_; have NB369_368 := n6_; clear n0_ n1_ n2_ n3_ n4_ n5_ n6_; clear hb hbox hg; have hnb6 := NB368_369.out; have hnc6 := NB369_368.out; have hcz7_0 : w5.cell? ⟨gb368, 0, none⟩ = some (.slice A0_0 l0_0.length c0_0) := (blk_cell BK368.out 0).trans rfl; have hfz7_0 := blk_frozen BK368.out 0; have hcz8_0 : w5.cell? ⟨gb369, 0, none⟩ = some (.slice A1_0 l1_0.length c1_0) := (blk_cell BK369.out 0).trans rfl; have hfz8_0 := blk_frozen BK369.out 0));(repeat (go_quiet (first | ((with_reducible refine gate_dst (N := 2) rfl ?_); refine box_event ?hg (N := 2) ?hd (cs := #[.slice A0_0 l0_0.length c0_0]) (t := 24) ?hr ?_; (case hd => rfl); (case hg => rfl); (case hr => first | (go_simp; done) | (go_simp; rfl)); intro gb368 hg w4 hbox hb; have n0_ := Aside0.mk (below_step (sL HB.out) hb); have n1_ := Aside0.mk (hbox); have n2_ := Aside0.mk ((by rw [hg]; exact (below_size (sL HB.out)) : w.heap.size ≤ gb368)); have n3_ := Aside0.mk ((by rw [hg]; exact (below_size (sL HB.out)) : w.heap.size ≤ gb368)); clear HB; have HB := n0_; have BK368 := n1_; have GW368 := n2_; have GE368 := n3_; clear n0_ n1_ n2_ n3_; clear hb hbox hg) | ((with_reducible refine gate_dst (N := 3) rfl ?_); refine box_event ?hg (N := 3) ?hd (cs := #[.slice A1_0 l1_0.length c1_0]) (t := 24) ?hr ?_; (case hd => rfl); (case hg => rfl); (case hr => first | (go_simp; done) | (go_simp; rfl)); intro gb369 hg w5 hbox hb; have n0_ := Aside0.mk (blk_below (g := gb368) (o := .cells #[.slice A0_0 l0_0.length c0_0] 24 (0, 0)) (sB BK368.out) hb); have n1_ := Aside0.mk (below_step (sL1 HB.out GE368.out) hb); have n2_ := Aside0.mk (hbox); have n3_ := Aside0.mk ((by rw [hg]; exact (below_size (sL1 HB.out GE368.out)) : w.heap.size ≤ gb369)); have n4_ := Aside0.mk ((by rw [hg]; exact (below_size (sL1 HB.out GE368.out)) : w.heap.size ≤ gb369)); have n5_ := Aside0.mk ((by rw [hg]; exact Nat.ne_of_lt (blk_lt (g := gb368) (o := .cells #[.slice A0_0 l0_0.length c0_0] 24 (0, 0)) (sB BK368.out)) : gb368 ≠ gb369)); have n6_ := Aside0.mk ((by rw [hg]; exact Nat.ne_of_gt (blk_lt (g := gb368) (o := .cells #[.slice A0_0 l0_0.length c0_0] 24 (0, 0)) (sB BK368.out)) : gb369 ≠ gb368)); clear BK368; clear HB; have BK368 := n0_; have HB := n1_; have BK369 := n2_; have GW369 := n3_; have GE369 := n4_; have NB368_369 := n5_; have NB369_368 := n6_; clear n0_ n1_ n2_ n3_ n4_ n5_ n6_; clear hb hbox hg; have hnb6 := NB368_369.out; have hnc6 := NB369_368.out; have hcz7_0 : w5.cell? ⟨gb368, 0, none⟩ = some (.slice A0_0 l0_0.length c0_0) := (blk_cell BK368.out 0).trans rfl; have hfz7_0 := blk_frozen BK368.out 0; have hcz8_0 : w5.cell? ⟨gb369, 0, none⟩ = some (.slice A1_0 l1_0.length c1_0) := (blk_cell BK369.out 0).trans rfl; have hfz8_0 := blk_frozen BK369.out 0)); try go_wp2_with (first | ((with_reducible refine gate_dst (N := 2) rfl ?_); refine box_event ?hg (N := 2) ?hd (cs := #[.slice A0_0 l0_0.length c0_0]) (t := 24) ?hr ?_; (case hd => rfl); (case hg => rfl); (case hr => first | (go_simp; done) | (go_simp; rfl)); intro gb368 hg w4 hbox hb; have n0_ := Aside0.mk (below_step (sL HB.out) hb); have n1_ := Aside0.mk (hbox); have n2_ := Aside0.mk ((by rw [hg]; exact (below_size (sL HB.out)) : w.heap.size ≤ gb368)); have n3_ := Aside0.mk ((by rw [hg]; exact (below_size (sL HB.out)) : w.heap.size ≤ gb368)); clear HB; have HB := n0_; have BK368 := n1_; have GW368 := n2_; have GE368 := n3_; clear n0_ n1_ n2_ n3_; clear hb hbox hg) | ((with_reducible refine gate_dst (N := 3) rfl ?_); refine box_event ?hg (N := 3) ?hd (cs := #[.slice A1_0 l1_0.length c1_0]) (t := 24) ?hr ?_; (case hd => rfl); (case hg => rfl); (case hr => first | (go_simp; done) | (go_simp; rfl)); intro gb369 hg w5 hbox hb; have n0_ := Aside0.mk (blk_below (g := gb368) (o := .cells #[.slice A0_0 l0_0.length c0_0] 24 (0, 0)) (sB BK368.out) hb); have n1_ := Aside0.mk (below_step (sL1 HB.out GE368.out) hb); have n2_ := Aside0.mk (hbox); have n3_ := Aside0.mk ((by rw [hg]; exact (below_size (sL1 HB.out GE368.out)) : w.heap.size ≤ gb369)); have n4_ := Aside0.mk ((by rw [hg]; exact (below_size (sL1 HB.out GE368.out)) : w.heap.size ≤ gb369)); have n5_ := Aside0.mk ((by rw [hg]; exact Nat.ne_of_lt (blk_lt (g := gb368) (o := .cells #[.slice A0_0 l0_0.length c0_0] 24 (0, 0)) (sB BK368.out)) : gb368 ≠ gb369)); have n6_ := Aside0.mk ((by rw [hg]; exact Nat.ne_of_gt (blk_lt (g := gb368) (o := .cells #[.slice A0_0 l0_0.length c0_0] 24 (0, 0)) (sB BK368.out)) : gb369 ≠ gb368)); clear BK368; clear HB; have BK368 := n0_; have HB := n1_; have BK369 := n2_; have GW369 := n3_; have GE369 := n4_; have NB368_369 := n5_; have NB369_368 := n6_; clear n0_ n1_ n2_ n3_ n4_ n5_ n6_; clear hb hbox hg; have hnb6 := NB368_369.out; have hnc6 := NB369_368.out; have hcz7_0 : w5.cell? ⟨gb368, 0, none⟩ = some (.slice A0_0 l0_0.length c0_0) := (blk_cell BK368.out 0).trans rfl; have hfz7_0 := blk_frozen BK368.out 0; have hcz8_0 : w5.cell? ⟨gb369, 0, none⟩ = some (.slice A1_0 l1_0.length c1_0) := (blk_cell BK369.out 0).trans rfl; have hfz8_0 := blk_frozen BK369.out 0))));go_loopg [5] k (fun kq v5 w' => ∃ (x5_1 : Int), v5 = .int .i64 x5_1 ∧ Aside0 (hoggetref05_Same.l0 kq x5_1 l0_0 l1_0 = some r) ∧ Aside0 (kq ≤ k) ∧ Aside0 (w'.heap[gb368]? = some (.cells #[(.slice A0_0 l0_0.length c0_0)] 24 (0, 0))) ∧ Aside0 (w'.heap[gb369]? = some (.cells #[(.slice A1_0 l1_0.length c1_0)] 24 (0, 0))) ∧ Aside0 (Below w.heap.size w w'));(case atStart => exact ⟨(0), sE, H', ⟨Nat.le_refl _⟩, ⟨sB BK368.out⟩, ⟨sB BK369.out⟩, ⟨sL2 HB.out GE368.out GE369.out⟩⟩)
  case round =>
   clear H';(try clear c1);(try clear p2);(try clear c3);(try clear c3b0);(try clear c3b1);(try clear c3b2);(try clear c6);(try clear hcz7_0);(try clear hcz8_0);(try clear hfz7_0);(try clear hfz8_0);obtain ⟨x5_1, rfl, HA, HK1, BK368, BK369, HB⟩ := hrel
   cases gk with
   | zero => exact absurd HA.out (by simp [hoggetref05_Same.l0])
   | succ k1 =>
    have H := HA.out;clear HA;simp only [hoggetref05_Same.l0] at H;by_cases c9 : x5_1 < (l0_0.length : Int)
    ·rw [if_pos c9] at H;have c9b0 := decide_eq_true c9;clear c9;by_cases c10 : 0 ≤ x5_1
     ·rw [if_pos c10] at H;have c10b0 := decide_eq_true c10;clear c10;by_cases c11 : x5_1 < (l1_0.length : Int)
      ·rw [if_pos c11] at H;have c11b0 := decide_eq_true c11;clear c11;by_cases c12 : ((rd_L4 l0_0 x5_1).length : Int) = ((rd_L4 l1_0 x5_1).length : Int)
       ·rw [if_pos c12] at H;have c12b0 := beq_iff_eq.mpr c12;have c12b1 := bne_eq_false_iff_eq.mpr c12;(have c12b2 : ((rd_L4 l0_0 x5_1).length == (rd_L4 l1_0 x5_1).length) = true := by first | simpa using c12 | (simp at c12 ⊢; omega));clear c12;have H' := Aside0.mk H;clear H;have hnb13 := NB368_369.out;have hnc13 := NB369_368.out;have hcz14_0 : wr.cell? ⟨gb368, 0, none⟩ = some (.slice A0_0 l0_0.length c0_0) := (blk_cell BK368.out 0).trans rfl;have hfz14_0 := blk_frozen BK368.out 0;have p370 : 0 ≤ (x5_1 : Int) := of_decide_eq_true sA;have q370 : x5_1 < (l0_0.length : Int) := of_decide_eq_true sA;obtain ⟨ad370, A370_0, c370_0, e370, hx370_0, hl370_0, hi370_0⟩ := at_L4 HR0_0.out x5_1 p370 q370;cases e370;replace hx370_0 := (HB.out.cell (World.block_lt_of_cell? w _ hx370_0)).trans hx370_0;have HR370_0 := Aside0.mk hi370_0;have HC370_0 := Aside0.mk hl370_0;clear hi370_0 hl370_0;replace p370 := eq_true p370;replace q370 := eq_true q370;have hcz15_0 : wr.cell? ⟨gb369, 0, none⟩ = some (.slice A1_0 l1_0.length c1_0) := (blk_cell BK369.out 0).trans rfl;have hfz15_0 := blk_frozen BK369.out 0;have p371 : 0 ≤ (x5_1 : Int) := of_decide_eq_true sA;have q371 : x5_1 < (l1_0.length : Int) := of_decide_eq_true sA;obtain ⟨ad371, A371_0, c371_0, e371, hx371_0, hl371_0, hi371_0⟩ := at_L4 HR1_0.out x5_1 p371 q371;cases e371;replace hx371_0 := (HB.out.cell (World.block_lt_of_cell? w _ hx371_0)).trans hx371_0;have HR371_0 := Aside0.mk hi371_0;have HC371_0 := Aside0.mk hl371_0;clear hi371_0 hl371_0;replace p371 := eq_true p371;replace q371 := eq_true q371;go_wp2;(repeat (go_quiet (fail); try go_wp2));go_loopg [6] k1 (fun kq v6 w' => ∃ (x6_2 : Int), v6 = .int .i64 x6_2 ∧ Aside0 (hoggetref05_Same.l1 kq x5_1 x6_2 l0_0 l1_0 = some r) ∧ Aside0 (kq ≤ k1) ∧ Aside0 (w'.heap[gb368]? = some (.cells #[(.slice (some ad370) l0_0.length c0_0)] 24 (0, 0))) ∧ Aside0 (w'.heap[gb369]? = some (.cells #[(.slice (some ad371) l1_0.length c1_0)] 24 (0, 0))) ∧ Aside0 (Below w.heap.size w w'));(case atStart => exact ⟨(0), sE, H', ⟨Nat.le_refl _⟩, ⟨sB BK368.out⟩, ⟨sB BK369.out⟩, ⟨sL2 HB.out GE368.out GE369.out⟩⟩)
        case round =>
         clear H';(try clear c1);(try clear p2);(try clear c3);(try clear c3b0);(try clear c3b1);(try clear c3b2);(try clear p3);(try clear q3);(try clear hx3);(try clear c6);(try clear c9);(try clear c9b0);(try clear c10);(try clear c10b0);(try clear c11);(try clear c11b0);(try clear c12);(try clear c12b0);(try clear c12b1);(try clear c12b2);(try clear c13);(try clear hcz14_0);(try clear hcz15_0);(try clear hcz7_0);(try clear hcz8_0);(try clear hfz14_0);(try clear hfz15_0);(try clear hfz7_0);(try clear hfz8_0);(try clear hx370_0);(try clear hx371_0);(try clear p2);(try clear p370);(try clear p371);(try clear q370);(try clear q371);obtain ⟨x6_2, rfl, HA, HK2, BK368, BK369, HB⟩ := hrel
         cases gk with
         | zero => exact absurd HA.out (by simp [hoggetref05_Same.l1])
         | succ k2 =>
          have H := HA.out;clear HA;simp only [hoggetref05_Same.l1] at H;by_cases c16 : 0 ≤ x5_1
          ·rw [if_pos c16] at H;have c16b0 := decide_eq_true c16;clear c16;by_cases c17 : x5_1 < (l0_0.length : Int)
           ·rw [if_pos c17] at H;have c17b0 := decide_eq_true c17;clear c17;by_cases c18 : x6_2 < ((rd_L4 l0_0 x5_1).length : Int)
            ·rw [if_pos c18] at H;have c18b0 := decide_eq_true c18;clear c18;by_cases c19 : 0 ≤ x6_2
             ·rw [if_pos c19] at H;have c19b0 := decide_eq_true c19;clear c19;by_cases c20 : x5_1 < (l1_0.length : Int)
              ·rw [if_pos c20] at H;have c20b0 := decide_eq_true c20;clear c20;by_cases c21 : x6_2 < ((rd_L4 l1_0 x5_1).length : Int)
               ·rw [if_pos c21] at H;have c21b0 := decide_eq_true c21;clear c21;by_cases c22 : (!(((rd_T45 (rd_L4 l0_0 x5_1) x6_2).f0) == ((rd_T45 (rd_L4 l1_0 x5_1) x6_2).f0)) || ((!(((rd_T45 (rd_L4 l0_0 x5_1) x6_2).f1.f0) == ((rd_T45 (rd_L4 l1_0 x5_1) x6_2).f1.f0)) || (!(((rd_T45 (rd_L4 l0_0 x5_1) x6_2).f1.f1) == ((rd_T45 (rd_L4 l1_0 x5_1) x6_2).f1.f1)) || (!(((rd_T45 (rd_L4 l0_0 x5_1) x6_2).f1.f2) == ((rd_T45 (rd_L4 l1_0 x5_1) x6_2).f1.f2)) || (!((((rd_T45 (rd_L4 l0_0 x5_1) x6_2).f1.f3).toList) == (((rd_T45 (rd_L4 l1_0 x5_1) x6_2).f1.f3).toList)))))))) = true
                ·rw [if_pos c22] at H;have c22b0 : (!(((rd_T45 (rd_L4 l0_0 x5_1) x6_2).f0) == ((rd_T45 (rd_L4 l1_0 x5_1) x6_2).f0)) || ((!(((rd_T45 (rd_L4 l0_0 x5_1) x6_2).f1.f0) == ((rd_T45 (rd_L4 l1_0 x5_1) x6_2).f1.f0)) || (!(((rd_T45 (rd_L4 l0_0 x5_1) x6_2).f1.f1) == ((rd_T45 (rd_L4 l1_0 x5_1) x6_2).f1.f1)) || (!(((rd_T45 (rd_L4 l0_0 x5_1) x6_2).f1.f2) == ((rd_T45 (rd_L4 l1_0 x5_1) x6_2).f1.f2)) || (!((((rd_T45 (rd_L4 l0_0 x5_1) x6_2).f1.f3).toList) == (((rd_T45 (rd_L4 l1_0 x5_1) x6_2).f1.f3).toList)))))))) = true := c22;clear c22;obtain rfl := Option.some.inj H;have hnb23 := NB368_369.out;have hnc23 := NB369_368.out;have hcz24_0 : wr.cell? ⟨gb368, 0, none⟩ = some (.slice (some ad370) l0_0.length c0_0) := (blk_cell BK368.out 0).trans rfl;have hfz24_0 := blk_frozen BK368.out 0;have p372 : 0 ≤ (x5_1 : Int) := of_decide_eq_true sA;have q372 : x5_1 < (l0_0.length : Int) := of_decide_eq_true sA;obtain ⟨ad372, A372_0, c372_0, e372, hx372_0, hl372_0, hi372_0⟩ := at_L4 HR0_0.out x5_1 p372 q372
                 obtain rfl : ad370 = ad372 := (by injection e372)
                 replace hx372_0 := (HB.out.cell (World.block_lt_of_cell? w _ hx372_0)).trans hx372_0;have HR372_0 := Aside0.mk hi372_0;have HC372_0 := Aside0.mk hl372_0;clear hi372_0 hl372_0;replace p372 := eq_true p372;replace q372 := eq_true q372;have p373 : 0 ≤ (x5_1 : Int) := of_decide_eq_true sA;have q373 : x5_1 < (l0_0.length : Int) := of_decide_eq_true sA;obtain ⟨ad373, A373_0, c373_0, e373, hx373_0, hl373_0, hi373_0⟩ := at_L4 HR0_0.out x5_1 p373 q373
                 obtain rfl : ad370 = ad373 := (by injection e373)
                 replace hx373_0 := (HB.out.cell (World.block_lt_of_cell? w _ hx373_0)).trans hx373_0;have HR373_0 := Aside0.mk hi373_0;have HC373_0 := Aside0.mk hl373_0;clear hi373_0 hl373_0;replace p373 := eq_true p373;replace q373 := eq_true q373;have ea_ := Option.some.inj (hx372_0.symm.trans hx373_0);injection ea_ with ea_ en_ ec_;subst ea_;subst ec_;clear en_;have p374 : 0 ≤ (x6_2 : Int) := of_decide_eq_true sA;have q374 : x6_2 < ((rd_L4 l0_0 x5_1).length : Int) := of_decide_eq_true sA;obtain ⟨ad374, e374, hx374_0, hx374_1, hx374_2, hx374_3, hx374_4⟩ := at_T45 HR373_0.out x6_2 p374 q374;cases e374;replace hx374_0 := (HB.out.cell (World.block_lt_of_cell? w _ hx374_0)).trans hx374_0;replace hx374_1 := (HB.out.cell (World.block_lt_of_cell? w _ hx374_1)).trans hx374_1;replace hx374_2 := (HB.out.cell (World.block_lt_of_cell? w _ hx374_2)).trans hx374_2;replace hx374_3 := (HB.out.cell (World.block_lt_of_cell? w _ hx374_3)).trans hx374_3;replace hx374_4 := (HB.out.cell (World.block_lt_of_cell? w _ hx374_4)).trans hx374_4;replace p374 := eq_true p374;replace q374 := eq_true q374;have hcz25_0 : wr.cell? ⟨gb369, 0, none⟩ = some (.slice (some ad371) l1_0.length c1_0) := (blk_cell BK369.out 0).trans rfl;have hfz25_0 := blk_frozen BK369.out 0;have p375 : 0 ≤ (x5_1 : Int) := of_decide_eq_true sA;have q375 : x5_1 < (l1_0.length : Int) := of_decide_eq_true sA;obtain ⟨ad375, A375_0, c375_0, e375, hx375_0, hl375_0, hi375_0⟩ := at_L4 HR1_0.out x5_1 p375 q375
                 obtain rfl : ad371 = ad375 := (by injection e375)
                 replace hx375_0 := (HB.out.cell (World.block_lt_of_cell? w _ hx375_0)).trans hx375_0;have HR375_0 := Aside0.mk hi375_0;have HC375_0 := Aside0.mk hl375_0;clear hi375_0 hl375_0;replace p375 := eq_true p375;replace q375 := eq_true q375;have p376 : 0 ≤ (x6_2 : Int) := of_decide_eq_true sA;have q376 : x6_2 < ((rd_L4 l1_0 x5_1).length : Int) := of_decide_eq_true sA;obtain ⟨ad376, e376, hx376_0, hx376_1, hx376_2, hx376_3, hx376_4⟩ := at_T45 HR375_0.out x6_2 p376 q376;cases e376;replace hx376_0 := (HB.out.cell (World.block_lt_of_cell? w _ hx376_0)).trans hx376_0;replace hx376_1 := (HB.out.cell (World.block_lt_of_cell? w _ hx376_1)).trans hx376_1;replace hx376_2 := (HB.out.cell (World.block_lt_of_cell? w _ hx376_2)).trans hx376_2;replace hx376_3 := (HB.out.cell (World.block_lt_of_cell? w _ hx376_3)).trans hx376_3;replace hx376_4 := (HB.out.cell (World.block_lt_of_cell? w _ hx376_4)).trans hx376_4;replace p376 := eq_true p376;replace q376 := eq_true q376;go_wp2;(repeat (go_quiet (fail); try go_wp2));go_ret;exact ⟨by first | rfl | (simp [errW_none, errW_some] <;> rfl) | (simp [*, errW_none, errW_some] <;> rfl), sL2 HB.out GE368.out GE369.out⟩
                ·rw [if_neg c22] at H;(have c22b0 : (!(((rd_T45 (rd_L4 l0_0 x5_1) x6_2).f0) == ((rd_T45 (rd_L4 l1_0 x5_1) x6_2).f0)) || ((!(((rd_T45 (rd_L4 l0_0 x5_1) x6_2).f1.f0) == ((rd_T45 (rd_L4 l1_0 x5_1) x6_2).f1.f0)) || (!(((rd_T45 (rd_L4 l0_0 x5_1) x6_2).f1.f1) == ((rd_T45 (rd_L4 l1_0 x5_1) x6_2).f1.f1)) || (!(((rd_T45 (rd_L4 l0_0 x5_1) x6_2).f1.f2) == ((rd_T45 (rd_L4 l1_0 x5_1) x6_2).f1.f2)) || (!((((rd_T45 (rd_L4 l0_0 x5_1) x6_2).f1.f3).toList) == (((rd_T45 (rd_L4 l1_0 x5_1) x6_2).f1.f3).toList)))))))) = false := by simpa using c22);clear c22;have H' := Aside0.mk H;clear H;have hnb26 := NB368_369.out;have hnc26 := NB369_368.out;have hcz27_0 : wr.cell? ⟨gb368, 0, none⟩ = some (.slice (some ad370) l0_0.length c0_0) := (blk_cell BK368.out 0).trans rfl;have hfz27_0 := blk_frozen BK368.out 0;have p372 : 0 ≤ (x5_1 : Int) := of_decide_eq_true sA;have q372 : x5_1 < (l0_0.length : Int) := of_decide_eq_true sA;obtain ⟨ad372, A372_0, c372_0, e372, hx372_0, hl372_0, hi372_0⟩ := at_L4 HR0_0.out x5_1 p372 q372
                 obtain rfl : ad370 = ad372 := (by injection e372)
                 replace hx372_0 := (HB.out.cell (World.block_lt_of_cell? w _ hx372_0)).trans hx372_0;have HR372_0 := Aside0.mk hi372_0;have HC372_0 := Aside0.mk hl372_0;clear hi372_0 hl372_0;replace p372 := eq_true p372;replace q372 := eq_true q372;have p373 : 0 ≤ (x5_1 : Int) := of_decide_eq_true sA;have q373 : x5_1 < (l0_0.length : Int) := of_decide_eq_true sA;obtain ⟨ad373, A373_0, c373_0, e373, hx373_0, hl373_0, hi373_0⟩ := at_L4 HR0_0.out x5_1 p373 q373
                 obtain rfl : ad370 = ad373 := (by injection e373)
                 replace hx373_0 := (HB.out.cell (World.block_lt_of_cell? w _ hx373_0)).trans hx373_0;have HR373_0 := Aside0.mk hi373_0;have HC373_0 := Aside0.mk hl373_0;clear hi373_0 hl373_0;replace p373 := eq_true p373;replace q373 := eq_true q373;have ea_ := Option.some.inj (hx372_0.symm.trans hx373_0);injection ea_ with ea_ en_ ec_;subst ea_;subst ec_;clear en_;have p374 : 0 ≤ (x6_2 : Int) := of_decide_eq_true sA;have q374 : x6_2 < ((rd_L4 l0_0 x5_1).length : Int) := of_decide_eq_true sA;obtain ⟨ad374, e374, hx374_0, hx374_1, hx374_2, hx374_3, hx374_4⟩ := at_T45 HR373_0.out x6_2 p374 q374;cases e374;replace hx374_0 := (HB.out.cell (World.block_lt_of_cell? w _ hx374_0)).trans hx374_0;replace hx374_1 := (HB.out.cell (World.block_lt_of_cell? w _ hx374_1)).trans hx374_1;replace hx374_2 := (HB.out.cell (World.block_lt_of_cell? w _ hx374_2)).trans hx374_2;replace hx374_3 := (HB.out.cell (World.block_lt_of_cell? w _ hx374_3)).trans hx374_3;replace hx374_4 := (HB.out.cell (World.block_lt_of_cell? w _ hx374_4)).trans hx374_4;replace p374 := eq_true p374;replace q374 := eq_true q374;have hcz28_0 : wr.cell? ⟨gb369, 0, none⟩ = some (.slice (some ad371) l1_0.length c1_0) := (blk_cell BK369.out 0).trans rfl;have hfz28_0 := blk_frozen BK369.out 0;have p375 : 0 ≤ (x5_1 : Int) := of_decide_eq_true sA;have q375 : x5_1 < (l1_0.length : Int) := of_decide_eq_true sA;obtain ⟨ad375, A375_0, c375_0, e375, hx375_0, hl375_0, hi375_0⟩ := at_L4 HR1_0.out x5_1 p375 q375
                 obtain rfl : ad371 = ad375 := (by injection e375)
                 replace hx375_0 := (HB.out.cell (World.block_lt_of_cell? w _ hx375_0)).trans hx375_0;have HR375_0 := Aside0.mk hi375_0;have HC375_0 := Aside0.mk hl375_0;clear hi375_0 hl375_0;replace p375 := eq_true p375;replace q375 := eq_true q375;have p376 : 0 ≤ (x6_2 : Int) := of_decide_eq_true sA;have q376 : x6_2 < ((rd_L4 l1_0 x5_1).length : Int) := of_decide_eq_true sA;obtain ⟨ad376, e376, hx376_0, hx376_1, hx376_2, hx376_3, hx376_4⟩ := at_T45 HR375_0.out x6_2 p376 q376;cases e376;replace hx376_0 := (HB.out.cell (World.block_lt_of_cell? w _ hx376_0)).trans hx376_0;replace hx376_1 := (HB.out.cell (World.block_lt_of_cell? w _ hx376_1)).trans hx376_1;replace hx376_2 := (HB.out.cell (World.block_lt_of_cell? w _ hx376_2)).trans hx376_2;replace hx376_3 := (HB.out.cell (World.block_lt_of_cell? w _ hx376_3)).trans hx376_3;replace hx376_4 := (HB.out.cell (World.block_lt_of_cell? w _ hx376_4)).trans hx376_4;replace p376 := eq_true p376;replace q376 := eq_true q376;go_wp2;(repeat (go_quiet (fail); try go_wp2));(go_roundg k2);(case measure => have := HK1.out; have := HK2.out; omega);(case rel => exact ⟨(wrap64 (x6_2 + 1)), sE, H', ⟨by have := HK1.out; have := HK2.out; omega⟩, ⟨sB BK368.out⟩, ⟨sB BK369.out⟩, ⟨sL2 HB.out GE368.out GE369.out⟩⟩)
               ·rw [if_neg c21] at H;exact absurd H (by simp)
              ·rw [if_neg c20] at H;exact absurd H (by simp)
             ·rw [if_neg c19] at H;exact absurd H (by simp)
            ·rw [if_neg c18] at H;have c18b0 := decide_eq_false c18;clear c18;have H' := Aside0.mk H;clear H;have hnb29 := NB368_369.out;have hnc29 := NB369_368.out;have hcz30_0 : wr.cell? ⟨gb368, 0, none⟩ = some (.slice (some ad370) l0_0.length c0_0) := (blk_cell BK368.out 0).trans rfl;have hfz30_0 := blk_frozen BK368.out 0;have p372 : 0 ≤ (x5_1 : Int) := of_decide_eq_true sA;have q372 : x5_1 < (l0_0.length : Int) := of_decide_eq_true sA;obtain ⟨ad372, A372_0, c372_0, e372, hx372_0, hl372_0, hi372_0⟩ := at_L4 HR0_0.out x5_1 p372 q372
             obtain rfl : ad370 = ad372 := (by injection e372)
             replace hx372_0 := (HB.out.cell (World.block_lt_of_cell? w _ hx372_0)).trans hx372_0;have HR372_0 := Aside0.mk hi372_0;have HC372_0 := Aside0.mk hl372_0;clear hi372_0 hl372_0;replace p372 := eq_true p372;replace q372 := eq_true q372;go_wp2;(repeat (go_quiet (fail); try go_wp2));(go_roundg k2);(case measure => have := HK1.out; have := HK2.out; omega);(case rel => exact ⟨(wrap64 (x5_1 + 1)), sE, H', ⟨by have := HK1.out; have := HK2.out; omega⟩, ⟨sB BK368.out⟩, ⟨sB BK369.out⟩, ⟨sL2 HB.out GE368.out GE369.out⟩⟩)
           ·rw [if_neg c17] at H;exact absurd H (by simp)
          ·rw [if_neg c16] at H;exact absurd H (by simp)
       ·rw [if_neg c12] at H;have c12b0 := beq_eq_false_iff_ne.mpr c12;have c12b1 := bne_iff_ne.mpr c12;(have c12b2 : ((rd_L4 l0_0 x5_1).length == (rd_L4 l1_0 x5_1).length) = false := by first | simpa using c12 | (simp at c12 ⊢; omega));obtain rfl := Option.some.inj H;have hnb31 := NB368_369.out;have hnc31 := NB369_368.out;have hcz32_0 : wr.cell? ⟨gb368, 0, none⟩ = some (.slice A0_0 l0_0.length c0_0) := (blk_cell BK368.out 0).trans rfl;have hfz32_0 := blk_frozen BK368.out 0;have p370 : 0 ≤ (x5_1 : Int) := of_decide_eq_true sA;have q370 : x5_1 < (l0_0.length : Int) := of_decide_eq_true sA;obtain ⟨ad370, A370_0, c370_0, e370, hx370_0, hl370_0, hi370_0⟩ := at_L4 HR0_0.out x5_1 p370 q370;cases e370;replace hx370_0 := (HB.out.cell (World.block_lt_of_cell? w _ hx370_0)).trans hx370_0;have HR370_0 := Aside0.mk hi370_0;have HC370_0 := Aside0.mk hl370_0;clear hi370_0 hl370_0;replace p370 := eq_true p370;replace q370 := eq_true q370;have hcz33_0 : wr.cell? ⟨gb369, 0, none⟩ = some (.slice A1_0 l1_0.length c1_0) := (blk_cell BK369.out 0).trans rfl;have hfz33_0 := blk_frozen BK369.out 0;have p371 : 0 ≤ (x5_1 : Int) := of_decide_eq_true sA;have q371 : x5_1 < (l1_0.length : Int) := of_decide_eq_true sA;obtain ⟨ad371, A371_0, c371_0, e371, hx371_0, hl371_0, hi371_0⟩ := at_L4 HR1_0.out x5_1 p371 q371;cases e371;replace hx371_0 := (HB.out.cell (World.block_lt_of_cell? w _ hx371_0)).trans hx371_0;have HR371_0 := Aside0.mk hi371_0;have HC371_0 := Aside0.mk hl371_0;clear hi371_0 hl371_0;replace p371 := eq_true p371;replace q371 := eq_true q371;go_wp2;(repeat (go_quiet (fail); try go_wp2));go_ret;exact ⟨by first | rfl | (simp [errW_none, errW_some] <;> rfl) | (simp [*, errW_none, errW_some] <;> rfl), sL2 HB.out GE368.out GE369.out⟩
      ·rw [if_neg c11] at H;exact absurd H (by simp)
     ·rw [if_neg c10] at H;exact absurd H (by simp)
    ·rw [if_neg c9] at H;have c9b0 := decide_eq_false c9;clear c9;obtain rfl := Option.some.inj H;have hnb34 := NB368_369.out;have hnc34 := NB369_368.out;have hcz35_0 : wr.cell? ⟨gb368, 0, none⟩ = some (.slice A0_0 l0_0.length c0_0) := (blk_cell BK368.out 0).trans rfl;have hfz35_0 := blk_frozen BK368.out 0;go_wp2;(repeat (go_quiet (fail); try go_wp2));go_ret;exact ⟨by first | rfl | (simp [errW_none, errW_some] <;> rfl) | (simp [*, errW_none, errW_some] <;> rfl), sL2 HB.out GE368.out GE369.out⟩
 ·rw [if_neg c3] at H;have c3b0 := beq_eq_false_iff_ne.mpr c3;have c3b1 := bne_iff_ne.mpr c3;(have c3b2 : (l0_0.length == l1_0.length) = false := by first | simpa using c3 | (simp at c3 ⊢; omega));obtain rfl := Option.some.inj H;(go_enter Tryz.func17, Tryz.ntmps17);go_wp2_with (first | ((with_reducible refine gate_dst (N := 2) rfl ?_); refine box_event ?hg (N := 2) ?hd (cs := #[.slice A0_0 l0_0.length c0_0]) (t := 24) ?hr ?_; (case hd => rfl); (case hg => rfl); (case hr => first | (go_simp; done) | (go_simp; rfl)); intro gb368 hg w36 hbox hb; have n0_ := Aside0.mk (below_step (sL HB.out) hb); have n1_ := Aside0.mk (hbox); have n2_ := Aside0.mk ((by rw [hg]; exact (below_size (sL HB.out)) : w.heap.size ≤ gb368)); have n3_ := Aside0.mk ((by rw [hg]; exact (below_size (sL HB.out)) : w.heap.size ≤ gb368)); clear HB; have HB := n0_; have BK368 := n1_; have GW368 := n2_; have GE368 := n3_; clear n0_ n1_ n2_ n3_; clear hb hbox hg) | ((with_reducible refine gate_dst (N := 3) rfl ?_); refine box_event ?hg (N := 3) ?hd (cs := #[.slice A1_0 l1_0.length c1_0]) (t := 24) ?hr ?_; (case hd => rfl); (case hg => rfl); (case hr => first | (go_simp; done) | (go_simp; rfl)); intro gb369 hg w37 hbox hb; have n0_ := Aside0.mk (blk_below (g := gb368) (o := .cells #[.slice A0_0 l0_0.length c0_0] 24 (0, 0)) (sB BK368.out) hb); have n1_ := Aside0.mk (below_step (sL1 HB.out GE368.out) hb); have n2_ := Aside0.mk (hbox); have n3_ := Aside0.mk ((by rw [hg]; exact (below_size (sL1 HB.out GE368.out)) : w.heap.size ≤ gb369)); have n4_ := Aside0.mk ((by rw [hg]; exact (below_size (sL1 HB.out GE368.out)) : w.heap.size ≤ gb369)); have n5_ := Aside0.mk ((by rw [hg]; exact Nat.ne_of_lt (blk_lt (g := gb368) (o := .cells #[.slice A0_0 l0_0.length c0_0] 24 (0, 0)) (sB BK368.out)) : gb368 ≠ gb369)); have n6_ := Aside0.mk ((by rw [hg]; exact Nat.ne_of_gt (blk_lt (g := gb368) (o := .cells #[.slice A0_0 l0_0.length c0_0] 24 (0, 0)) (sB BK368.out)) : gb369 ≠ gb368)); clear BK368; clear HB; have BK368 := n0_; have HB := n1_; have BK369 := n2_; have GW369 := n3_; have GE369 := n4_; have NB368_369 := n5_; have NB369_368 := n6_; clear n0_ n1_ n2_ n3_ n4_ n5_ n6_; clear hb hbox hg; have hnb38 := NB368_369.out; have hnc38 := NB369_368.out; have hcz39_0 : w37.cell? ⟨gb368, 0, none⟩ = some (.slice A0_0 l0_0.length c0_0) := (blk_cell BK368.out 0).trans rfl; have hfz39_0 := blk_frozen BK368.out 0; have hcz40_0 : w37.cell? ⟨gb369, 0, none⟩ = some (.slice A1_0 l1_0.length c1_0) := (blk_cell BK369.out 0).trans rfl; have hfz40_0 := blk_frozen BK369.out 0));(repeat (go_quiet (first | ((with_reducible refine gate_dst (N := 2) rfl ?_); refine box_event ?hg (N := 2) ?hd (cs := #[.slice A0_0 l0_0.length c0_0]) (t := 24) ?hr ?_; (case hd => rfl); (case hg => rfl); (case hr => first | (go_simp; done) | (go_simp; rfl)); intro gb368 hg w36 hbox hb; have n0_ := Aside0.mk (below_step (sL HB.out) hb); have n1_ := Aside0.mk (hbox); have n2_ := Aside0.mk ((by rw [hg]; exact (below_size (sL HB.out)) : w.heap.size ≤ gb368)); have n3_ := Aside0.mk ((by rw [hg]; exact (below_size (sL HB.out)) : w.heap.size ≤ gb368)); clear HB; have HB := n0_; have BK368 := n1_; have GW368 := n2_; have GE368 := n3_; clear n0_ n1_ n2_ n3_; clear hb hbox hg) | ((with_reducible refine gate_dst (N := 3) rfl ?_); refine box_event ?hg (N := 3) ?hd (cs := #[.slice A1_0 l1_0.length c1_0]) (t := 24) ?hr ?_; (case hd => rfl); (case hg => rfl); (case hr => first | (go_simp; done) | (go_simp; rfl)); intro gb369 hg w37 hbox hb; have n0_ := Aside0.mk (blk_below (g := gb368) (o := .cells #[.slice A0_0 l0_0.length c0_0] 24 (0, 0)) (sB BK368.out) hb); have n1_ := Aside0.mk (below_step (sL1 HB.out GE368.out) hb); have n2_ := Aside0.mk (hbox); have n3_ := Aside0.mk ((by rw [hg]; exact (below_size (sL1 HB.out GE368.out)) : w.heap.size ≤ gb369)); have n4_ := Aside0.mk ((by rw [hg]; exact (below_size (sL1 HB.out GE368.out)) : w.heap.size ≤ gb369)); have n5_ := Aside0.mk ((by rw [hg]; exact Nat.ne_of_lt (blk_lt (g := gb368) (o := .cells #[.slice A0_0 l0_0.length c0_0] 24 (0, 0)) (sB BK368.out)) : gb368 ≠ gb369)); have n6_ := Aside0.mk ((by rw [hg]; exact Nat.ne_of_gt (blk_lt (g := gb368) (o := .cells #[.slice A0_0 l0_0.length c0_0] 24 (0, 0)) (sB BK368.out)) : gb369 ≠ gb368)); clear BK368; clear HB; have BK368 := n0_; have HB := n1_; have BK369 := n2_; have GW369 := n3_; have GE369 := n4_; have NB368_369 := n5_; have NB369_368 := n6_; clear n0_ n1_ n2_ n3_ n4_ n5_ n6_; clear hb hbox hg; have hnb38 := NB368_369.out; have hnc38 := NB369_368.out; have hcz39_0 : w37.cell? ⟨gb368, 0, none⟩ = some (.slice A0_0 l0_0.length c0_0) := (blk_cell BK368.out 0).trans rfl; have hfz39_0 := blk_frozen BK368.out 0; have hcz40_0 : w37.cell? ⟨gb369, 0, none⟩ = some (.slice A1_0 l1_0.length c1_0) := (blk_cell BK369.out 0).trans rfl; have hfz40_0 := blk_frozen BK369.out 0)); try go_wp2_with (first | ((with_reducible refine gate_dst (N := 2) rfl ?_); refine box_event ?hg (N := 2) ?hd (cs := #[.slice A0_0 l0_0.length c0_0]) (t := 24) ?hr ?_; (case hd => rfl); (case hg => rfl); (case hr => first | (go_simp; done) | (go_simp; rfl)); intro gb368 hg w36 hbox hb; have n0_ := Aside0.mk (below_step (sL HB.out) hb); have n1_ := Aside0.mk (hbox); have n2_ := Aside0.mk ((by rw [hg]; exact (below_size (sL HB.out)) : w.heap.size ≤ gb368)); have n3_ := Aside0.mk ((by rw [hg]; exact (below_size (sL HB.out)) : w.heap.size ≤ gb368)); clear HB; have HB := n0_; have BK368 := n1_; have GW368 := n2_; have GE368 := n3_; clear n0_ n1_ n2_ n3_; clear hb hbox hg) | ((with_reducible refine gate_dst (N := 3) rfl ?_); refine box_event ?hg (N := 3) ?hd (cs := #[.slice A1_0 l1_0.length c1_0]) (t := 24) ?hr ?_; (case hd => rfl); (case hg => rfl); (case hr => first | (go_simp; done) | (go_simp; rfl)); intro gb369 hg w37 hbox hb; have n0_ := Aside0.mk (blk_below (g := gb368) (o := .cells #[.slice A0_0 l0_0.length c0_0] 24 (0, 0)) (sB BK368.out) hb); have n1_ := Aside0.mk (below_step (sL1 HB.out GE368.out) hb); have n2_ := Aside0.mk (hbox); have n3_ := Aside0.mk ((by rw [hg]; exact (below_size (sL1 HB.out GE368.out)) : w.heap.size ≤ gb369)); have n4_ := Aside0.mk ((by rw [hg]; exact (below_size (sL1 HB.out GE368.out)) : w.heap.size ≤ gb369)); have n5_ := Aside0.mk ((by rw [hg]; exact Nat.ne_of_lt (blk_lt (g := gb368) (o := .cells #[.slice A0_0 l0_0.length c0_0] 24 (0, 0)) (sB BK368.out)) : gb368 ≠ gb369)); have n6_ := Aside0.mk ((by rw [hg]; exact Nat.ne_of_gt (blk_lt (g := gb368) (o := .cells #[.slice A0_0 l0_0.length c0_0] 24 (0, 0)) (sB BK368.out)) : gb369 ≠ gb368)); clear BK368; clear HB; have BK368 := n0_; have HB := n1_; have BK369 := n2_; have GW369 := n3_; have GE369 := n4_; have NB368_369 := n5_; have NB369_368 := n6_; clear n0_ n1_ n2_ n3_ n4_ n5_ n6_; clear hb hbox hg; have hnb38 := NB368_369.out; have hnc38 := NB369_368.out; have hcz39_0 : w37.cell? ⟨gb368, 0, none⟩ = some (.slice A0_0 l0_0.length c0_0) := (blk_cell BK368.out 0).trans rfl; have hfz39_0 := blk_frozen BK368.out 0; have hcz40_0 : w37.cell? ⟨gb369, 0, none⟩ = some (.slice A1_0 l1_0.length c1_0) := (blk_cell BK369.out 0).trans rfl; have hfz40_0 := blk_frozen BK369.out 0))));go_ret;exact ⟨by first | rfl | (simp [errW_none, errW_some] <;> rfl) | (simp [*, errW_none, errW_some] <;> rfl), sL2 HB.out GE368.out GE369.out⟩
end Go.Proofs.YtijooffpjfhidaaGreatDoor.G
end
section
namespace Go.Proofs.YtijooffpjfhidaaGreatDoor.G
open Go.RowKit Go.Proofs.YtijooffpjfhidaaGreatDoorW.PrintWords Go.Proofs.YtijooffpjfhidaaGreatDoorW.PrintLast Go.Proofs.YtijooffpjfhidaaGreatDoorW.PrintMore
attribute [local go_sem] Go.Proofs.YtijooffpjfhidaaGreatDoor.Aid.gtr_string max2_int min2_int max_two min_two max_three min_three max_four min_four
set_option linter.unusedVariables false
set_option linter.unusedSimpArgs false
set_option maxHeartbeats 8000000
set_option maxRecDepth 100000
def hoggetlaw05_SpanTexts.j0 : Nat → ByteArray → Bool → List (List (S45)) → Option (Bool)
  | 0, _, _, _ => none
  | k + 1, x0, x20, x378000 => if x20 = true then (some true) else ((hoggetref05_Own.f k x378000).bind fun t379 => ((span_Parse.f k x0).bind fun bt383 => ((hoggetref05_Parse.f k x0).bind fun bt388 => ((span_Print.f k x378000).bind fun bt393 => ((hoggetref05_Print.f k t379).bind fun bt395 => ((hoggetlaw05_spans.f k).bind fun t397 => (if t397 = true then ((hoggetref05_Same.f k bt383.1 bt388.1).bind fun t398 => (if t398 = true then (if (bt383.2 == bt388.2) = true then (if bt393.1.toList = bt395.1.toList then (if (bt393.2 == bt395.2) = true then ((hoggetref05_Same.f k x378000 t379).bind fun t399 => (some t399)) else (none)) else (none)) else (none)) else (none))) else (none))))))))
def hoggetlaw05_SpanTexts.f (k : Nat) (a0 : ByteArray) (l1_0 : List (List (S45))) : Option (Bool) := if (a0.size : Int) > 1000 then (hoggetlaw05_SpanTexts.j0 k a0 true l1_0) else ((hoggetref05_Big.f k l1_0).bind fun t378 => (hoggetlaw05_SpanTexts.j0 k a0 t378 l1_0))
theorem hoggetlaw05_SpanTexts.calls (k : Nat) (a0 : ByteArray) (A1_0 : Option Addr) (c1_0 : Nat) (l1_0 : List (List (S45))) (r : Bool) (w : World) (hr1_0 : Kd.C (Kd.slice 45 k45) w A1_0 l1_0.length l1_0) (hc1_0 : l1_0.length ≤ c1_0) (h : hoggetlaw05_SpanTexts.f k a0 l1_0 = some r) (hLD : LD w) :
 Calls Tryz.prog 3 #[.string a0, .agg #[.slice A1_0 l1_0.length c1_0]] w fun e w' => e = .returned (.bool r) ∧ Below w.heap.size w w' := by
 have hu24 := Tryz.underlying24;have HR1_0 := Aside0.mk hr1_0;have HC1_0 := Aside0.mk hc1_0;clear hr1_0 hc1_0;have HB := Aside0.mk (Below.refl w.heap.size w);have H : (if (a0.size : Int) > 1000 then (hoggetlaw05_SpanTexts.j0 k a0 true l1_0) else ((hoggetref05_Big.f k l1_0).bind fun t378 => (hoggetlaw05_SpanTexts.j0 k a0 t378 l1_0))) = some r := h;clear h;have HC3 := Aside0.mk H;clear H;(go_enter Tryz.func3, Tryz.ntmps3);(go_upto_region 1 with (first | ((with_reducible refine gate_dst (N := 3) rfl ?_); refine box_event ?hg (N := 3) ?hd (cs := #[.slice A1_0 l1_0.length c1_0]) (t := 24) ?hr ?_; (case hd => rfl); (case hg => rfl); (case hr => first | (go_simp; done) | (go_simp; rfl)); intro gb377 hg w4 hbox hb; have n0_ := Aside0.mk (below_step (sL HB.out) hb); have n1_ := Aside0.mk (hbox); have n2_ := Aside0.mk ((by rw [hg]; exact (below_size (sL HB.out)) : w.heap.size ≤ gb377)); have n3_ := Aside0.mk ((by rw [hg]; exact (below_size (sL HB.out)) : w.heap.size ≤ gb377)); clear HB; have HB := n0_; have BK377 := n1_; have GW377 := n2_; have GE377 := n3_; clear n0_ n1_ n2_ n3_; clear hb hbox hg)));(try simp only [Act.put, List.setIfInBounds_toArray, List.set_cons_zero, List.set_cons_succ]);go_cut [20] (fun v20 wc => ∃ (kq : Nat) (x20_2 : Bool), v20 = .bool x20_2 ∧ Aside0 (hoggetlaw05_SpanTexts.j0 kq a0 x20_2 l1_0 = some r) ∧ Aside0 (kq ≤ k) ∧ Aside0 (wc.heap[gb377]? = some (.cells #[(.slice A1_0 l1_0.length c1_0)] 24 (0, 0))) ∧ Aside0 (Below w.heap.size w wc))
 case first =>
  have H := HC3.out;clear HC3;by_cases c5 : (a0.size : Int) > 1000
  ·rw [if_pos c5] at H;have c5b0 := decide_eq_true c5;have c5b1 : decide (1000 < a0.size) = true := decide_eq_true (by omega);clear c5;(first | rw [c5b0] | (simp only [i64_w, i32_w]; rw [c5b0]) | skip);have H' := Aside0.mk H;clear H;go_wp2;go_meet;(case rel => exact ⟨_, (true), sE, H', ⟨by first | omega | exact Nat.le_refl _⟩, ⟨sB BK377.out⟩, ⟨sL1 HB.out GE377.out⟩⟩)
  ·rw [if_neg c5] at H;have c5b0 := decide_eq_false c5;have c5b1 : decide (1000 < a0.size) = false := decide_eq_false (by omega);clear c5;(first | rw [c5b0] | (simp only [i64_w, i32_w]; rw [c5b0]) | skip);replace H := Option.bind_eq_some_iff.mp H;obtain ⟨t378, A60, H⟩ := H;have A6 := Aside0.mk A60;clear A60;have H' := Aside0.mk H;clear H;have hcz7_0 : w4.cell? ⟨gb377, 0, none⟩ = some (.slice A1_0 l1_0.length c1_0) := (blk_cell BK377.out 0).trans rfl;have hfz7_0 := blk_frozen BK377.out 0;go_wp2_with (first | (go_at_call 10; (with_reducible refine (hoggetref05_Big.calls k _ _ l1_0 t378 _ ?side1 ?side2 A6.out).mono ?_); (case side1 => repeat (first | exact (Kd.C_below HR1_0.out HB.out) | (with_reducible refine Kd.C_alloc ?_ _) | (with_reducible refine Kd.C_drewN ?_ _) | (with_reducible refine Kd.C_drew ?_))); (case side2 => exact HC1_0.out); rintro e w8 ⟨rfl, hb⟩; have n0_ := Aside0.mk (blk_below (g := gb377) (o := .cells #[.slice A1_0 l1_0.length c1_0] 24 (0, 0)) (sB BK377.out) hb); have n1_ := Aside0.mk (below_step (sL1 HB.out GE377.out) hb); clear BK377; clear HB; have BK377 := n0_; have HB := n1_; clear n0_ n1_; (try clear hb); (try clear hb2); (try clear hk); (try clear hi)));go_meet;(case rel => exact ⟨_, (t378), sE, H', ⟨by first | omega | exact Nat.le_refl _⟩, ⟨sB BK377.out⟩, ⟨sL1 HB.out GE377.out⟩⟩)
 case rest =>
  clear HC3;(try clear c1);(try clear p2);(try clear c3);(try clear c5);(try clear c5b0);(try clear c5b1);(try clear hcz7_0);(try clear hfz7_0);obtain ⟨kq, x20_2, rfl, HA, HJ2, BK377, HB⟩ := hcut
  cases kq with
  | zero => exact absurd HA.out (by simp [hoggetlaw05_SpanTexts.j0])
  | succ kj2 =>
   have H := HA.out;clear HA;simp only [hoggetlaw05_SpanTexts.j0] at H;by_cases c9 : x20_2 = true
   ·subst c9;(have H1 : (some true) = some r := by rw [if_pos rfl] at H; exact H);clear H;have H := H1;clear H1;obtain rfl := Option.some.inj H;go_wp2;go_ret;exact ⟨by first | rfl | (simp [errW_none, errW_some] <;> rfl) | (simp [*, errW_none, errW_some] <;> rfl), sL1 HB.out GE377.out⟩
   ·replace c9 := Bool.eq_false_iff.mpr c9;subst c9;(have H1 : ((hoggetref05_Own.f kj2 l1_0).bind fun t379 => ((span_Parse.f kj2 a0).bind fun bt383 => ((hoggetref05_Parse.f kj2 a0).bind fun bt388 => ((span_Print.f kj2 l1_0).bind fun bt393 => ((hoggetref05_Print.f kj2 t379).bind fun bt395 => ((hoggetlaw05_spans.f kj2).bind fun t397 => (if t397 = true then ((hoggetref05_Same.f kj2 bt383.1 bt388.1).bind fun t398 => (if t398 = true then (if (bt383.2 == bt388.2) = true then (if bt393.1.toList = bt395.1.toList then (if (bt393.2 == bt395.2) = true then ((hoggetref05_Same.f kj2 l1_0 t379).bind fun t399 => (some t399)) else (none)) else (none)) else (none)) else (none))) else (none)))))))) = some r := by rw [if_neg (show ¬ (false = true) by decide)] at H; exact H);clear H;have H := H1;clear H1;replace H := Option.bind_eq_some_iff.mp H;obtain ⟨t379, A100, H⟩ := H;have A10 := Aside0.mk A100;clear A100;replace H := Option.bind_eq_some_iff.mp H;obtain ⟨⟨t383, t386⟩, A110, H⟩ := H;have A11 := Aside0.mk A110;clear A110;replace H := Option.bind_eq_some_iff.mp H;obtain ⟨⟨t388, t391⟩, A120, H⟩ := H;have A12 := Aside0.mk A120;clear A120;replace H := Option.bind_eq_some_iff.mp H;obtain ⟨⟨t393, t394⟩, A130, H⟩ := H;have A13 := Aside0.mk A130;clear A130;replace H := Option.bind_eq_some_iff.mp H;obtain ⟨⟨t395, t396⟩, A140, H⟩ := H;have A14 := Aside0.mk A140;clear A140;replace H := Option.bind_eq_some_iff.mp H;obtain ⟨t397, A150, H⟩ := H;have A15 := Aside0.mk A150;clear A150;by_cases c16 : t397 = true
    ·subst c16;(have H1 : ((hoggetref05_Same.f kj2 t383 t388).bind fun t398 => (if t398 = true then (if (t386 == t391) = true then (if t393.toList = t395.toList then (if (t394 == t396) = true then ((hoggetref05_Same.f kj2 l1_0 t379).bind fun t399 => (some t399)) else (none)) else (none)) else (none)) else (none))) = some r := by rw [if_pos rfl] at H; exact H);clear H;have H := H1;clear H1;replace H := Option.bind_eq_some_iff.mp H;obtain ⟨t398, A170, H⟩ := H;have A17 := Aside0.mk A170;clear A170;by_cases c18 : t398 = true
     ·subst c18;(have H1 : (if (t386 == t391) = true then (if t393.toList = t395.toList then (if (t394 == t396) = true then ((hoggetref05_Same.f kj2 l1_0 t379).bind fun t399 => (some t399)) else (none)) else (none)) else (none)) = some r := by rw [if_pos rfl] at H; exact H);clear H;have H := H1;clear H1;by_cases c19 : (t386 == t391) = true
      ·rw [if_pos c19] at H;have c19b0 : (t386 == t391) = true := c19;(try (have c19b1 : decide (t386 = t391) = true := by simpa using c19));(try (have c19b2 : (t386 == t391) = true := by simpa using c19));clear c19;by_cases c20 : t393.toList = t395.toList
       ·rw [if_pos c20] at H;have c20b0 := beq_iff_eq.mpr c20;have c20b1 := bne_eq_false_iff_eq.mpr c20;clear c20;by_cases c21 : (t394 == t396) = true
        ·rw [if_pos c21] at H;have c21b0 : (t394 == t396) = true := c21;(try (have c21b1 : decide (t394 = t396) = true := by simpa using c21));(try (have c21b2 : (t394 == t396) = true := by simpa using c21));clear c21;replace H := Option.bind_eq_some_iff.mp H;obtain ⟨t399, A220, H⟩ := H;have A22 := Aside0.mk A220;clear A220;obtain rfl := Option.some.inj H;have hcz23_0 : wc.cell? ⟨gb377, 0, none⟩ = some (.slice A1_0 l1_0.length c1_0) := (blk_cell BK377.out 0).trans rfl;have hfz23_0 := blk_frozen BK377.out 0;go_wp2_with (first | ((with_reducible refine gate_callee (f := 11) rfl ?_); refine goesL_ (some 22) rfl rfl Tryz.func11 (by kernel_rfl) rfl #[.agg #[.slice A1_0 l1_0.length c1_0]] rfl sM ?_; (with_reducible refine (hoggetref05_Own.calls kj2 _ _ l1_0 t379 _ ?side1 ?side2 A10.out).mono ?_); (case side1 => repeat (first | exact (Kd.C_below HR1_0.out HB.out) | (with_reducible refine Kd.C_alloc ?_ _) | (with_reducible refine Kd.C_drewN ?_ _) | (with_reducible refine Kd.C_drew ?_))); (case side2 => exact HC1_0.out); rintro e w24 ⟨v380, rfl, ho0, hb⟩; refine ⟨_, rfl, ?_⟩; have n0_ := Aside0.mk (Kd.S_lower ho0 (below_size (sL1 HB.out GE377.out))); have n1_ := Aside0.mk (blk_below (g := gb377) (o := .cells #[.slice A1_0 l1_0.length c1_0] 24 (0, 0)) (sB BK377.out) hb); have n2_ := Aside0.mk (below_step (sL1 HB.out GE377.out) hb); clear BK377; clear HB; have HO381 := n0_; have BK377 := n1_; have HB := n2_; clear n0_ n1_ n2_; (try clear hb); (try clear hb2); (try clear hk); (try clear hi); (try clear ho0)) | ((with_reducible refine gate_dst (N := 5) rfl ?_); refine box_event ?hg (N := 5) ?hd (cs := #[.slice none 0 0]) (t := 24) ?hr ?_; (case hd => rfl); (case hg => rfl); (case hr => first | (go_simp; done) | (go_simp; rfl)); intro gb382 hg w25 hbox hb; have n0_ := Aside0.mk (Kd.S_below (sS HO381.out) hb); have n1_ := Aside0.mk (blk_below (g := gb377) (o := .cells #[.slice A1_0 l1_0.length c1_0] 24 (0, 0)) (sB BK377.out) hb); have n2_ := Aside0.mk (below_step (sL1 HB.out GE377.out) hb); have n3_ := Aside0.mk (hbox); have n4_ := Aside0.mk ((by rw [hg]; exact (below_size (sL1 HB.out GE377.out)) : w.heap.size ≤ gb382)); have n5_ := Aside0.mk ((by rw [hg]; exact (below_size (sL1 HB.out GE377.out)) : w.heap.size ≤ gb382)); have n6_ := Aside0.mk ((by rw [hg]; exact Nat.ne_of_lt (blk_lt (g := gb377) (o := .cells #[.slice A1_0 l1_0.length c1_0] 24 (0, 0)) (sB BK377.out)) : gb377 ≠ gb382)); have n7_ := Aside0.mk ((by rw [hg]; exact Nat.ne_of_gt (blk_lt (g := gb377) (o := .cells #[.slice A1_0 l1_0.length c1_0] 24 (0, 0)) (sB BK377.out)) : gb382 ≠ gb377)); clear HO381; clear BK377; clear HB; have HO381 := n0_; have BK377 := n1_; have HB := n2_; have BK382 := n3_; have GW382 := n4_; have GE382 := n5_; have NB377_382 := n6_; have NB382_377 := n7_; clear n0_ n1_ n2_ n3_ n4_ n5_ n6_ n7_; clear hb hbox hg; obtain ⟨Ao26, co26, eo26⟩ := Kd.S_slice HO381.out; subst eo26; have hnb27 := NB382_377.out; have hnc27 := NB377_382.out; have hcz28_0 : w25.cell? ⟨gb382, 0, none⟩ = some (.slice none 0 0) := (blk_cell BK382.out 0).trans rfl; have hfz28_0 := blk_frozen BK382.out 0) | ((with_reducible refine gate_callee (f := 12) rfl ?_); refine goesL_ (some 25) rfl rfl Tryz.func12 (by kernel_rfl) rfl #[.string a0] rfl sM ?_; (with_reducible refine (span_Parse.calls kj2 a0 t383 t386 _ A11.out (sH hLD HB.out)).mono ?_); rintro e w29 ⟨v384, rfl, ho0, hb⟩; refine ⟨_, rfl, ?_⟩; have n0_ := Aside0.mk (Kd.S_elder' (by refine sS ?_; exact (Kd.S_mono (Kd.S_far (p := ⟨gb382, 0, none⟩) (Kd.S_types HO381.out BK382.out (by decide)) (fun _ hk => hk.2) (.slice Ao26 t379.length co26)) (fun _ h_ => h_.1))) (Kd.S_base ho0) hb); have n1_ := Aside0.mk (Kd.S_lower (Kd.S_new' ho0 (Kd.S_lt (by refine sS ?_; exact (Kd.S_mono (Kd.S_far (p := ⟨gb382, 0, none⟩) (Kd.S_types HO381.out BK382.out (by decide)) (fun _ hk => hk.2) (.slice Ao26 t379.length co26)) (fun _ h_ => h_.1))))) (below_size (sL2 HB.out GE377.out GE382.out))); have n2_ := Aside0.mk (blk_below (g := gb377) (o := .cells #[.slice A1_0 l1_0.length c1_0] 24 (0, 0)) (by refine sB ?_; refine blk_far ?_ NB377_382.out _; refine sB ?_; exact BK377.out) hb); have n3_ := Aside0.mk (blk_below (g := gb382) (o := .cells #[.slice Ao26 t379.length co26] 24 (0, 0)) (by refine sB ?_; refine blk_put (cs := #[.slice none 0 0]) ?_ 0 _ rfl; refine sB ?_; exact BK382.out) hb); have n4_ := Aside0.mk (below_step (sL2 HB.out GE377.out GE382.out) hb); clear HO381; clear BK377; clear BK382; clear HB; have HO381 := n0_; have HO385 := n1_; have BK377 := n2_; have BK382 := n3_; have HB := n4_; clear n0_ n1_ n2_ n3_ n4_; (try clear hb); (try clear hb2); (try clear hk); (try clear hi); (try clear ho0)) | ((with_reducible refine gate_dst (N := 6) rfl ?_); refine box_event ?hg (N := 6) ?hd (cs := #[.slice none 0 0]) (t := 24) ?hr ?_; (case hd => rfl); (case hg => rfl); (case hr => first | (go_simp; done) | (go_simp; rfl)); intro gb387 hg w30 hbox hb; have n0_ := Aside0.mk (Kd.S_below (sS HO381.out) hb); have n1_ := Aside0.mk (Kd.S_below (sS HO385.out) hb); have n2_ := Aside0.mk (blk_below (g := gb377) (o := .cells #[.slice A1_0 l1_0.length c1_0] 24 (0, 0)) (sB BK377.out) hb); have n3_ := Aside0.mk (blk_below (g := gb382) (o := .cells #[.slice Ao26 t379.length co26] 24 (0, 0)) (sB BK382.out) hb); have n4_ := Aside0.mk (below_step (sL2 HB.out GE377.out GE382.out) hb); have n5_ := Aside0.mk (hbox); have n6_ := Aside0.mk ((by rw [hg]; exact (below_size (sL2 HB.out GE377.out GE382.out)) : w.heap.size ≤ gb387)); have n7_ := Aside0.mk ((by rw [hg]; exact (below_size (sL2 HB.out GE377.out GE382.out)) : w.heap.size ≤ gb387)); have n8_ := Aside0.mk ((by rw [hg]; exact Nat.ne_of_lt (blk_lt (g := gb377) (o := .cells #[.slice A1_0 l1_0.length c1_0] 24 (0, 0)) (sB BK377.out)) : gb377 ≠ gb387)); have n9_ := Aside0.mk ((by rw [hg]; exact Nat.ne_of_gt (blk_lt (g := gb377) (o := .cells #[.slice A1_0 l1_0.length c1_0] 24 (0, 0)) (sB BK377.out)) : gb387 ≠ gb377)); have n10_ := Aside0.mk ((by rw [hg]; exact Nat.ne_of_lt (blk_lt (g := gb382) (o := .cells #[.slice Ao26 t379.length co26] 24 (0, 0)) (sB BK382.out)) : gb382 ≠ gb387)); have n11_ := Aside0.mk ((by rw [hg]; exact Nat.ne_of_gt (blk_lt (g := gb382) (o := .cells #[.slice Ao26 t379.length co26] 24 (0, 0)) (sB BK382.out)) : gb387 ≠ gb382)); clear HO381; clear HO385; clear BK377; clear BK382; clear HB; have HO381 := n0_; have HO385 := n1_; have BK377 := n2_; have BK382 := n3_; have HB := n4_; have BK387 := n5_; have GW387 := n6_; have GE387 := n7_; have NB377_387 := n8_; have NB387_377 := n9_; have NB382_387 := n10_; have NB387_382 := n11_; clear n0_ n1_ n2_ n3_ n4_ n5_ n6_ n7_ n8_ n9_ n10_ n11_; clear hb hbox hg; obtain ⟨Ao31, co31, eo31⟩ := Kd.S_slice HO385.out; subst eo31; have hnb32 := NB387_377.out; have hnc32 := NB377_387.out; have hnb33 := NB387_382.out; have hnc33 := NB382_387.out; have hcz34_0 : w30.cell? ⟨gb387, 0, none⟩ = some (.slice none 0 0) := (blk_cell BK387.out 0).trans rfl; have hfz34_0 := blk_frozen BK387.out 0) | ((with_reducible refine gate_callee (f := 13) rfl ?_); refine goesL_ (some 30) rfl rfl Tryz.func13 (by kernel_rfl) rfl #[.string a0] rfl sM ?_; (with_reducible refine (hoggetref05_Parse.calls kj2 a0 t388 t391 _ A12.out).mono ?_); rintro e w35 ⟨v389, rfl, ho0, hb⟩; refine ⟨_, rfl, ?_⟩; have n0_ := Aside0.mk (Kd.S_elder' (by refine sS ?_; exact (Kd.S_mono (Kd.S_far (p := ⟨gb387, 0, none⟩) (Kd.S_types HO381.out BK387.out (by decide)) (fun _ hk => hk.2) (.slice Ao31 t383.length co31)) (fun _ h_ => h_.1))) (Kd.S_base ho0) hb); have n1_ := Aside0.mk (Kd.S_elder' (by refine sS ?_; exact (Kd.S_mono (Kd.S_far (p := ⟨gb387, 0, none⟩) (Kd.S_types HO385.out BK387.out (by decide)) (fun _ hk => hk.2) (.slice Ao31 t383.length co31)) (fun _ h_ => h_.1))) (Kd.S_base ho0) hb); have n2_ := Aside0.mk (Kd.S_lower (Kd.S_new' (Kd.S_new' ho0 (Kd.S_lt (by refine sS ?_; exact (Kd.S_mono (Kd.S_far (p := ⟨gb387, 0, none⟩) (Kd.S_types HO381.out BK387.out (by decide)) (fun _ hk => hk.2) (.slice Ao31 t383.length co31)) (fun _ h_ => h_.1))))) (Kd.S_lt (by refine sS ?_; exact (Kd.S_mono (Kd.S_far (p := ⟨gb387, 0, none⟩) (Kd.S_types HO385.out BK387.out (by decide)) (fun _ hk => hk.2) (.slice Ao31 t383.length co31)) (fun _ h_ => h_.1))))) (below_size (sL3 HB.out GE377.out GE382.out GE387.out))); have n3_ := Aside0.mk (blk_below (g := gb377) (o := .cells #[.slice A1_0 l1_0.length c1_0] 24 (0, 0)) (by refine sB ?_; refine blk_far ?_ NB377_387.out _; refine sB ?_; exact BK377.out) hb); have n4_ := Aside0.mk (blk_below (g := gb382) (o := .cells #[.slice Ao26 t379.length co26] 24 (0, 0)) (by refine sB ?_; refine blk_far ?_ NB382_387.out _; refine sB ?_; exact BK382.out) hb); have n5_ := Aside0.mk (blk_below (g := gb387) (o := .cells #[.slice Ao31 t383.length co31] 24 (0, 0)) (by refine sB ?_; refine blk_put (cs := #[.slice none 0 0]) ?_ 0 _ rfl; refine sB ?_; exact BK387.out) hb); have n6_ := Aside0.mk (below_step (sL3 HB.out GE377.out GE382.out GE387.out) hb); clear HO381; clear HO385; clear BK377; clear BK382; clear BK387; clear HB; have HO381 := n0_; have HO385 := n1_; have HO390 := n2_; have BK377 := n3_; have BK382 := n4_; have BK387 := n5_; have HB := n6_; clear n0_ n1_ n2_ n3_ n4_ n5_ n6_; (try clear hb); (try clear hb2); (try clear hk); (try clear hi); (try clear ho0)) | ((with_reducible refine gate_dst (N := 8) rfl ?_); refine box_event ?hg (N := 8) ?hd (cs := #[.slice none 0 0]) (t := 24) ?hr ?_; (case hd => rfl); (case hg => rfl); (case hr => first | (go_simp; done) | (go_simp; rfl)); intro gb392 hg w36 hbox hb; have n0_ := Aside0.mk (Kd.S_below (sS HO381.out) hb); have n1_ := Aside0.mk (Kd.S_below (sS HO385.out) hb); have n2_ := Aside0.mk (Kd.S_below (sS HO390.out) hb); have n3_ := Aside0.mk (blk_below (g := gb377) (o := .cells #[.slice A1_0 l1_0.length c1_0] 24 (0, 0)) (sB BK377.out) hb); have n4_ := Aside0.mk (blk_below (g := gb382) (o := .cells #[.slice Ao26 t379.length co26] 24 (0, 0)) (sB BK382.out) hb); have n5_ := Aside0.mk (blk_below (g := gb387) (o := .cells #[.slice Ao31 t383.length co31] 24 (0, 0)) (sB BK387.out) hb); have n6_ := Aside0.mk (below_step (sL3 HB.out GE377.out GE382.out GE387.out) hb); have n7_ := Aside0.mk (hbox); have n8_ := Aside0.mk ((by rw [hg]; exact (below_size (sL3 HB.out GE377.out GE382.out GE387.out)) : w.heap.size ≤ gb392)); have n9_ := Aside0.mk ((by rw [hg]; exact (below_size (sL3 HB.out GE377.out GE382.out GE387.out)) : w.heap.size ≤ gb392)); have n10_ := Aside0.mk ((by rw [hg]; exact Nat.ne_of_lt (blk_lt (g := gb377) (o := .cells #[.slice A1_0 l1_0.length c1_0] 24 (0, 0)) (sB BK377.out)) : gb377 ≠ gb392)); have n11_ := Aside0.mk ((by rw [hg]; exact Nat.ne_of_gt (blk_lt (g := gb377) (o := .cells #[.slice A1_0 l1_0.length c1_0] 24 (0, 0)) (sB BK377.out)) : gb392 ≠ gb377)); have n12_ := Aside0.mk ((by rw [hg]; exact Nat.ne_of_lt (blk_lt (g := gb382) (o := .cells #[.slice Ao26 t379.length co26] 24 (0, 0)) (sB BK382.out)) : gb382 ≠ gb392)); have n13_ := Aside0.mk ((by rw [hg]; exact Nat.ne_of_gt (blk_lt (g := gb382) (o := .cells #[.slice Ao26 t379.length co26] 24 (0, 0)) (sB BK382.out)) : gb392 ≠ gb382)); have n14_ := Aside0.mk ((by rw [hg]; exact Nat.ne_of_lt (blk_lt (g := gb387) (o := .cells #[.slice Ao31 t383.length co31] 24 (0, 0)) (sB BK387.out)) : gb387 ≠ gb392)); have n15_ := Aside0.mk ((by rw [hg]; exact Nat.ne_of_gt (blk_lt (g := gb387) (o := .cells #[.slice Ao31 t383.length co31] 24 (0, 0)) (sB BK387.out)) : gb392 ≠ gb387)); clear HO381; clear HO385; clear HO390; clear BK377; clear BK382; clear BK387; clear HB; have HO381 := n0_; have HO385 := n1_; have HO390 := n2_; have BK377 := n3_; have BK382 := n4_; have BK387 := n5_; have HB := n6_; have BK392 := n7_; have GW392 := n8_; have GE392 := n9_; have NB377_392 := n10_; have NB392_377 := n11_; have NB382_392 := n12_; have NB392_382 := n13_; have NB387_392 := n14_; have NB392_387 := n15_; clear n0_ n1_ n2_ n3_ n4_ n5_ n6_ n7_ n8_ n9_ n10_ n11_ n12_ n13_ n14_ n15_; clear hb hbox hg; obtain ⟨Ao37, co37, eo37⟩ := Kd.S_slice HO390.out; subst eo37; have hnb38 := NB392_377.out; have hnc38 := NB377_392.out; have hnb39 := NB392_382.out; have hnc39 := NB382_392.out; have hnb40 := NB392_387.out; have hnc40 := NB387_392.out; have hcz41_0 : w36.cell? ⟨gb392, 0, none⟩ = some (.slice none 0 0) := (blk_cell BK392.out 0).trans rfl; have hfz41_0 := blk_frozen BK392.out 0; have hcz42_0 : w36.cell? ⟨gb377, 0, none⟩ = some (.slice A1_0 l1_0.length c1_0) := (blk_cell BK377.out 0).trans rfl; have hfz42_0 := blk_frozen BK377.out 0) | ((with_reducible refine gate_callee (f := 14) rfl ?_); refine goesL_ (some 35) rfl rfl Tryz.func14 (by kernel_rfl) rfl #[.agg #[.slice A1_0 l1_0.length c1_0]] rfl sM ?_; (with_reducible refine (span_Print.calls kj2 _ _ l1_0 t393 t394 _ ?side1 ?side2 A13.out (sH hLD HB.out)).mono ?_); (case side1 => exact Kd.C_below HR1_0.out (sL4 HB.out GE377.out GE382.out GE387.out GE392.out)); (case side2 => exact HC1_0.out); rintro e w43 ⟨rfl, hb⟩; refine ⟨_, rfl, ?_⟩; have n0_ := Aside0.mk (Kd.S_below (by refine sS ?_; exact (Kd.S_mono (Kd.S_far (p := ⟨gb392, 0, none⟩) (Kd.S_types HO381.out BK392.out (by decide)) (fun _ hk => hk.2) (.slice Ao37 t388.length co37)) (fun _ h_ => h_.1))) hb); have n1_ := Aside0.mk (Kd.S_below (by refine sS ?_; exact (Kd.S_mono (Kd.S_far (p := ⟨gb392, 0, none⟩) (Kd.S_types HO385.out BK392.out (by decide)) (fun _ hk => hk.2) (.slice Ao37 t388.length co37)) (fun _ h_ => h_.1))) hb); have n2_ := Aside0.mk (Kd.S_below (by refine sS ?_; exact (Kd.S_mono (Kd.S_far (p := ⟨gb392, 0, none⟩) (Kd.S_types HO390.out BK392.out (by decide)) (fun _ hk => hk.2) (.slice Ao37 t388.length co37)) (fun _ h_ => h_.1))) hb); have n3_ := Aside0.mk (blk_below (g := gb377) (o := .cells #[.slice A1_0 l1_0.length c1_0] 24 (0, 0)) (by refine sB ?_; refine blk_far ?_ NB377_392.out _; refine sB ?_; exact BK377.out) hb); have n4_ := Aside0.mk (blk_below (g := gb382) (o := .cells #[.slice Ao26 t379.length co26] 24 (0, 0)) (by refine sB ?_; refine blk_far ?_ NB382_392.out _; refine sB ?_; exact BK382.out) hb); have n5_ := Aside0.mk (blk_below (g := gb387) (o := .cells #[.slice Ao31 t383.length co31] 24 (0, 0)) (by refine sB ?_; refine blk_far ?_ NB387_392.out _; refine sB ?_; exact BK387.out) hb); have n6_ := Aside0.mk (blk_below (g := gb392) (o := .cells #[.slice Ao37 t388.length co37] 24 (0, 0)) (by refine sB ?_; refine blk_put (cs := #[.slice none 0 0]) ?_ 0 _ rfl; refine sB ?_; exact BK392.out) hb); have n7_ := Aside0.mk (below_step (sL4 HB.out GE377.out GE382.out GE387.out GE392.out) hb); clear HO381; clear HO385; clear HO390; clear BK377; clear BK382; clear BK387; clear BK392; clear HB; have HO381 := n0_; have HO385 := n1_; have HO390 := n2_; have BK377 := n3_; have BK382 := n4_; have BK387 := n5_; have BK392 := n6_; have HB := n7_; clear n0_ n1_ n2_ n3_ n4_ n5_ n6_ n7_; (try clear hb); (try clear hb2); (try clear hk); (try clear hi); have hcz44_0 : w43.cell? ⟨gb382, 0, none⟩ = some (.slice Ao26 t379.length co26) := (blk_cell BK382.out 0).trans rfl; have hfz44_0 := blk_frozen BK382.out 0) | ((with_reducible refine gate_callee (f := 15) rfl ?_); refine goesL_ (some 40) rfl rfl Tryz.func15 (by kernel_rfl) rfl #[.agg #[.slice Ao26 t379.length co26]] rfl sM ?_; (with_reducible refine (hoggetref05_Print.calls kj2 _ _ t379 t395 t396 _ ?side1 ?side2 A14.out).mono ?_); (case side1 => repeat (first | exact (Kd.S_reads' HO381.out).2.2 | (with_reducible refine Kd.C_alloc ?_ _) | (with_reducible refine Kd.C_drewN ?_ _) | (with_reducible refine Kd.C_drew ?_))); (case side2 => exact (Kd.S_reads' HO381.out).2.1); rintro e w45 ⟨rfl, hb⟩; refine ⟨_, rfl, ?_⟩; have n0_ := Aside0.mk (Kd.S_below (sS HO381.out) hb); have n1_ := Aside0.mk (Kd.S_below (sS HO385.out) hb); have n2_ := Aside0.mk (Kd.S_below (sS HO390.out) hb); have n3_ := Aside0.mk (blk_below (g := gb377) (o := .cells #[.slice A1_0 l1_0.length c1_0] 24 (0, 0)) (sB BK377.out) hb); have n4_ := Aside0.mk (blk_below (g := gb382) (o := .cells #[.slice Ao26 t379.length co26] 24 (0, 0)) (sB BK382.out) hb); have n5_ := Aside0.mk (blk_below (g := gb387) (o := .cells #[.slice Ao31 t383.length co31] 24 (0, 0)) (sB BK387.out) hb); have n6_ := Aside0.mk (blk_below (g := gb392) (o := .cells #[.slice Ao37 t388.length co37] 24 (0, 0)) (sB BK392.out) hb); have n7_ := Aside0.mk (below_step (sL4 HB.out GE377.out GE382.out GE387.out GE392.out) hb); clear HO381; clear HO385; clear HO390; clear BK377; clear BK382; clear BK387; clear BK392; clear HB; have HO381 := n0_; have HO385 := n1_; have HO390 := n2_; have BK377 := n3_; have BK382 := n4_; have BK387 := n5_; have BK392 := n6_; have HB := n7_; clear n0_ n1_ n2_ n3_ n4_ n5_ n6_ n7_; (try clear hb); (try clear hb2); (try clear hk); (try clear hi)) | ((with_reducible refine gate_callee (f := 16) rfl ?_); refine goesL_ (some 43) rfl rfl Tryz.func16 (by kernel_rfl) rfl #[] rfl sM ?_; (with_reducible refine (hoggetlaw05_spans.calls kj2  true _ A15.out (sH hLD HB.out)).mono ?_); rintro e w46 ⟨rfl, hb⟩; refine ⟨_, rfl, ?_⟩; have n0_ := Aside0.mk (Kd.S_below (sS HO381.out) hb); have n1_ := Aside0.mk (Kd.S_below (sS HO385.out) hb); have n2_ := Aside0.mk (Kd.S_below (sS HO390.out) hb); have n3_ := Aside0.mk (blk_below (g := gb377) (o := .cells #[.slice A1_0 l1_0.length c1_0] 24 (0, 0)) (sB BK377.out) hb); have n4_ := Aside0.mk (blk_below (g := gb382) (o := .cells #[.slice Ao26 t379.length co26] 24 (0, 0)) (sB BK382.out) hb); have n5_ := Aside0.mk (blk_below (g := gb387) (o := .cells #[.slice Ao31 t383.length co31] 24 (0, 0)) (sB BK387.out) hb); have n6_ := Aside0.mk (blk_below (g := gb392) (o := .cells #[.slice Ao37 t388.length co37] 24 (0, 0)) (sB BK392.out) hb); have n7_ := Aside0.mk (below_step (sL4 HB.out GE377.out GE382.out GE387.out GE392.out) hb); clear HO381; clear HO385; clear HO390; clear BK377; clear BK382; clear BK387; clear BK392; clear HB; have HO381 := n0_; have HO385 := n1_; have HO390 := n2_; have BK377 := n3_; have BK382 := n4_; have BK387 := n5_; have BK392 := n6_; have HB := n7_; clear n0_ n1_ n2_ n3_ n4_ n5_ n6_ n7_; (try clear hb); (try clear hb2); (try clear hk); (try clear hi); have hcz47_0 : w46.cell? ⟨gb387, 0, none⟩ = some (.slice Ao31 t383.length co31) := (blk_cell BK387.out 0).trans rfl; have hfz47_0 := blk_frozen BK387.out 0; have hcz48_0 : w46.cell? ⟨gb392, 0, none⟩ = some (.slice Ao37 t388.length co37) := (blk_cell BK392.out 0).trans rfl; have hfz48_0 := blk_frozen BK392.out 0) | (go_at_call 17; (with_reducible refine (hoggetref05_Same.calls kj2 _ _ t383 _ _ t388 true _ ?side1 ?side2 ?side3 ?side4 A17.out).mono ?_); (case side1 => repeat (first | exact (Kd.S_reads' HO385.out).2.2 | (with_reducible refine Kd.C_alloc ?_ _) | (with_reducible refine Kd.C_drewN ?_ _) | (with_reducible refine Kd.C_drew ?_))); (case side2 => exact (Kd.S_reads' HO385.out).2.1); (case side3 => repeat (first | exact (Kd.S_reads' HO390.out).2.2 | (with_reducible refine Kd.C_alloc ?_ _) | (with_reducible refine Kd.C_drewN ?_ _) | (with_reducible refine Kd.C_drew ?_))); (case side4 => exact (Kd.S_reads' HO390.out).2.1); rintro e w49 ⟨rfl, hb⟩; have n0_ := Aside0.mk (Kd.S_below (sS HO381.out) hb); have n1_ := Aside0.mk (Kd.S_below (sS HO385.out) hb); have n2_ := Aside0.mk (Kd.S_below (sS HO390.out) hb); have n3_ := Aside0.mk (blk_below (g := gb377) (o := .cells #[.slice A1_0 l1_0.length c1_0] 24 (0, 0)) (sB BK377.out) hb); have n4_ := Aside0.mk (blk_below (g := gb382) (o := .cells #[.slice Ao26 t379.length co26] 24 (0, 0)) (sB BK382.out) hb); have n5_ := Aside0.mk (blk_below (g := gb387) (o := .cells #[.slice Ao31 t383.length co31] 24 (0, 0)) (sB BK387.out) hb); have n6_ := Aside0.mk (blk_below (g := gb392) (o := .cells #[.slice Ao37 t388.length co37] 24 (0, 0)) (sB BK392.out) hb); have n7_ := Aside0.mk (below_step (sL4 HB.out GE377.out GE382.out GE387.out GE392.out) hb); clear HO381; clear HO385; clear HO390; clear BK377; clear BK382; clear BK387; clear BK392; clear HB; have HO381 := n0_; have HO385 := n1_; have HO390 := n2_; have BK377 := n3_; have BK382 := n4_; have BK387 := n5_; have BK392 := n6_; have HB := n7_; clear n0_ n1_ n2_ n3_ n4_ n5_ n6_ n7_; (try clear hb); (try clear hb2); (try clear hk); (try clear hi); have hcz50_0 : w49.cell? ⟨gb377, 0, none⟩ = some (.slice A1_0 l1_0.length c1_0) := (blk_cell BK377.out 0).trans rfl; have hfz50_0 := blk_frozen BK377.out 0; have hcz51_0 : w49.cell? ⟨gb382, 0, none⟩ = some (.slice Ao26 t379.length co26) := (blk_cell BK382.out 0).trans rfl; have hfz51_0 := blk_frozen BK382.out 0) | (go_at_call 17; (with_reducible refine (hoggetref05_Same.calls kj2 _ _ l1_0 _ _ t379 t399 _ ?side1 ?side2 ?side3 ?side4 A22.out).mono ?_); (case side1 => repeat (first | exact (Kd.C_below HR1_0.out HB.out) | (with_reducible refine Kd.C_alloc ?_ _) | (with_reducible refine Kd.C_drewN ?_ _) | (with_reducible refine Kd.C_drew ?_))); (case side2 => exact HC1_0.out); (case side3 => repeat (first | exact (Kd.S_reads' HO381.out).2.2 | (with_reducible refine Kd.C_alloc ?_ _) | (with_reducible refine Kd.C_drewN ?_ _) | (with_reducible refine Kd.C_drew ?_))); (case side4 => exact (Kd.S_reads' HO381.out).2.1); rintro e w52 ⟨rfl, hb⟩; have n0_ := Aside0.mk (Kd.S_below (sS HO381.out) hb); have n1_ := Aside0.mk (Kd.S_below (sS HO385.out) hb); have n2_ := Aside0.mk (Kd.S_below (sS HO390.out) hb); have n3_ := Aside0.mk (blk_below (g := gb377) (o := .cells #[.slice A1_0 l1_0.length c1_0] 24 (0, 0)) (sB BK377.out) hb); have n4_ := Aside0.mk (blk_below (g := gb382) (o := .cells #[.slice Ao26 t379.length co26] 24 (0, 0)) (sB BK382.out) hb); have n5_ := Aside0.mk (blk_below (g := gb387) (o := .cells #[.slice Ao31 t383.length co31] 24 (0, 0)) (sB BK387.out) hb); have n6_ := Aside0.mk (blk_below (g := gb392) (o := .cells #[.slice Ao37 t388.length co37] 24 (0, 0)) (sB BK392.out) hb); have n7_ := Aside0.mk (below_step (sL4 HB.out GE377.out GE382.out GE387.out GE392.out) hb); clear HO381; clear HO385; clear HO390; clear BK377; clear BK382; clear BK387; clear BK392; clear HB; have HO381 := n0_; have HO385 := n1_; have HO390 := n2_; have BK377 := n3_; have BK382 := n4_; have BK387 := n5_; have BK392 := n6_; have HB := n7_; clear n0_ n1_ n2_ n3_ n4_ n5_ n6_ n7_; (try clear hb); (try clear hb2); (try clear hk); (try clear hi)));go_ret;exact ⟨by first | rfl | (simp [errW_none, errW_some] <;> rfl) | (simp [*, errW_none, errW_some] <;> rfl), sL4 HB.out GE377.out GE382.out GE387.out GE392.out⟩
        ·rw [if_neg c21] at H;(have c21b0 : (t394 == t396) = false := by simpa using c21);(try (have c21b1 : decide (t394 = t396) = false := by simpa using c21));(try (have c21b2 : (t394 == t396) = false := by simpa using c21));(try (have c21b3 : ¬ (t394 = t396) := by simpa using c21));clear c21;exact absurd H (by simp)
       ·rw [if_neg c20] at H;have c20b0 := beq_eq_false_iff_ne.mpr c20;have c20b1 := bne_iff_ne.mpr c20;exact absurd H (by simp)
      ·rw [if_neg c19] at H;(have c19b0 : (t386 == t391) = false := by simpa using c19);(try (have c19b1 : decide (t386 = t391) = false := by simpa using c19));(try (have c19b2 : (t386 == t391) = false := by simpa using c19));(try (have c19b3 : ¬ (t386 = t391) := by simpa using c19));clear c19;exact absurd H (by simp)
     ·replace c18 := Bool.eq_false_iff.mpr c18;subst c18;(have H1 : (none) = some r := by rw [if_neg (show ¬ (false = true) by decide)] at H; exact H);clear H;have H := H1;clear H1;exact absurd H (by simp)
    ·replace c16 := Bool.eq_false_iff.mpr c16;subst c16;(have H1 : (none) = some r := by rw [if_neg (show ¬ (false = true) by decide)] at H; exact H);clear H;have H := H1;clear H1;exact absurd H (by simp)
end Go.Proofs.YtijooffpjfhidaaGreatDoor.G
end
section
namespace Go.Proofs.YtijooffpjfhidaaGreatDoor.Vp
open Go Go.RowKit Go.Proofs.YtijooffpjfhidaaGreatDoor.Txt Go.Proofs.YtijooffpjfhidaaGreatDoor.Trim Go.Proofs.YtijooffpjfhidaaGreatDoor.Num
def numF (n : Nat) (c : UInt8) : Nat := n * 10 + (c.toNat - 48)
def numV (l : List UInt8) : Nat := l.foldl numF 0
theorem numV_snoc (l : List UInt8) (c : UInt8) : numV (l ++ [c]) = numV l * 10 + (c.toNat - 48) := by simp [numV, numF]
theorem dig_iff {c : UInt8} : dig c = true ↔ 48 ≤ c.toNat ∧ c.toNat ≤ 57 := by unfold dig; simp
theorem fold_lt : ∀ (l : List UInt8) (acc : Nat), l.all dig = true → l.foldl numF acc < (acc + 1) * 10 ^ l.length
  | [], acc, _ => by simp
  | c :: r, acc, h => by
    rw [List.all_cons, Bool.and_eq_true] at h
    have hd := dig_iff.1 h.1
    rw [List.foldl_cons, List.length_cons, Nat.pow_succ]
    have h1 := fold_lt r (numF acc c) h.2
    have h2 : numF acc c + 1 ≤ (acc + 1) * 10 := by unfold numF; omega
    have h3 := Nat.mul_le_mul_right (10 ^ r.length) h2
    have h4 : (acc + 1) * 10 * 10 ^ r.length = (acc + 1) * (10 ^ r.length * 10) := by rw [Nat.mul_assoc, Nat.mul_comm 10]
    omega
theorem numV_lt {l : List UInt8} (h : l.all dig = true) : numV l < 10 ^ l.length := by have := fold_lt l 0 h; simpa [numV] using this
theorem parse10 : ∀ (l : List UInt8) (acc : Nat), l.all dig = true → (acc + 1) * 10 ^ l.length ≤ 1000000000000000000 → Lib.parseUint10 acc l = .ok (l.foldl numF acc)
  | [], acc, _, _ => rfl
  | c :: r, acc, h, hb => by
    rw [List.all_cons, Bool.and_eq_true] at h
    have hd := dig_iff.1 h.1
    have hp : 1 ≤ 10 ^ r.length := Nat.one_le_pow _ _ (by decide)
    rw [List.length_cons, Nat.pow_succ] at hb
    have h4 : (acc + 1) * 10 * 10 ^ r.length = (acc + 1) * (10 ^ r.length * 10) := by rw [Nat.mul_assoc, Nat.mul_comm 10]
    have h5 : (acc + 1) * 10 ≤ (acc + 1) * 10 * 10 ^ r.length := Nat.le_mul_of_pos_right _ hp
    have h6 : (acc * 10 + (c.toNat - 48) + 1) * 10 ^ r.length ≤ (acc + 1) * 10 * 10 ^ r.length := Nat.mul_le_mul_right _ (by omega)
    simp only [Lib.parseUint10]
    rw [if_pos hd, if_neg (by omega), if_neg (by omega), parse10 r _ h.2 (by omega)]
    rfl
theorem valA_num {l : List UInt8} (hp : plainB l = true) (hl : l.length ≤ 17) : valA l = numV l := by
  cases l with
  | nil => cases hp
  | cons c r =>
    have ha : (c :: r).all dig = true := hp
    have hd := dig_iff.1 ((Bool.and_eq_true _ _).mp (by rw [List.all_cons] at ha; exact ha)).1
    have hb : 10 ^ (c :: r).length ≤ 100000000000000000 := by
      have : 10 ^ (c :: r).length ≤ 10 ^ 17 := Nat.pow_le_pow_right (by decide) hl
      have e : 10 ^ 17 = 100000000000000000 := by decide
      omega
    have h1 := parse10 (c :: r) 0 ha (by omega)
    have h2 := numV_lt ha
    have hn43 : ¬ (c.toNat = 43 ∨ c.toNat = 45) := by omega
    have hn45 : ¬ c.toNat = 45 := by omega
    have h3 : Lib.atoiAll (c :: r) = .ok (numV (c :: r) : Int) := by
      simp only [Lib.atoiAll, if_neg hn43, Lib.parseMag, if_neg (List.cons_ne_nil c r), h1]
      rw [if_neg (by simp only [hn45, not_false_eq_true, true_and]; show ¬ 9223372036854775808 ≤ numV (c :: r); omega), if_neg (by simp [hn45]), if_neg hn45]
      rfl
    unfold valA
    rw [h3]
theorem dig_back {c : UInt8} (h : dig c = true) : UInt8.ofNat (48 + (c.toNat - 48)) = c := by
  have := dig_iff.1 h
  rw [show 48 + (c.toNat - 48) = c.toNat by omega]
  simp
theorem dec_numV : ∀ (n : Nat) (l : List UInt8), l.length = n + 1 → l.all dig = true → (l.head? = some 48 → l = [48]) → Lib.decDigits (numV l) = l
  | 0, l, hl, ha, _ => by
    match l, hl with
    | [c], _ =>
      have hd : dig c = true := by simpa using ha
      have := dig_iff.1 hd
      have e : numV [c] = c.toNat - 48 := by simp [numV, numF]
      rw [e, Lib.decDigits_one (by omega), dig_back hd]
  | n + 1, l, hl, ha, hh => by
    rcases List.eq_nil_or_concat l with rfl | ⟨l', c, rfl⟩
    · simp at hl
    · simp only [List.concat_eq_append] at hl ha hh ⊢
      rw [List.all_append, Bool.and_eq_true] at ha
      have hd : dig c = true := by simpa using ha.2
      have hdi := dig_iff.1 hd
      have hl' : l'.length = n + 1 := by simp at hl; exact hl
      have hne : l' ≠ [] := by intro e; rw [e] at hl'; simp at hl'
      have hh' : l'.head? ≠ some 48 := by
        intro e
        have h1 : (l' ++ [c]).head? = some 48 := by
          cases l' with
          | nil => exact absurd rfl hne
          | cons x t => simpa using e
        exact hne (by have := congrArg List.length (hh h1); simp at this; exact this)
      have ih := dec_numV n l' hl' ha.1 (fun e => absurd e hh')
      have hpos : 1 ≤ numV l' := by
        rcases Nat.eq_zero_or_pos (numV l') with h0 | h0
        · rw [h0, Lib.decDigits_one (by omega)] at ih
          exfalso; apply hh'; rw [← ih]; rfl
        · exact h0
      rw [numV_snoc, Lib.decDigits, dif_neg (by omega), show (numV l' * 10 + (c.toNat - 48)) / 10 = numV l' by omega, show (numV l' * 10 + (c.toNat - 48)) % 10 = c.toNat - 48 by omega, ih, dig_back hd]
theorem dec_back (u : Nat) : numV (Lib.decDigits u) = u ∧ (Lib.decDigits u).all dig = true ∧ Lib.decDigits u ≠ [] ∧ ((Lib.decDigits u).head? = some 48 → u = 0) := by
  induction u using Nat.strongRecOn with
  | ind u ih =>
    by_cases h : u < 10
    · rw [Lib.decDigits_one h]
      have e : (UInt8.ofNat (48 + u)).toNat = 48 + u := by simp; omega
      refine ⟨by simp only [numV, numF, List.foldl_cons, List.foldl_nil, e]; omega, ?_, by simp, fun hh => ?_⟩
      · rw [List.all_cons, List.all_nil, Bool.and_true]; exact dig_iff.2 (by omega)
      · have h1 : UInt8.ofNat (48 + u) = 48 := by simpa using hh
        rw [h1] at e
        have : (48 : UInt8).toNat = 48 := rfl
        omega
    · have e : (UInt8.ofNat (48 + u % 10)).toNat = 48 + u % 10 := by simp; omega
      obtain ⟨h1, h2, h3, h4⟩ := ih (u / 10) (by omega)
      rw [Lib.decDigits, dif_neg h]
      refine ⟨by rw [numV_snoc, h1, e]; omega, ?_, by simp, fun hh => ?_⟩
      · rw [List.all_append, h2, List.all_cons, List.all_nil, Bool.and_true, Bool.true_and]; exact dig_iff.2 (by omega)
      · exfalso
        cases hd : Lib.decDigits (u / 10) with
        | nil => exact h3 hd
        | cons x t =>
          rw [hd] at hh h4
          have := h4 (by simpa using hh)
          omega
theorem nDigits_le : ∀ (k u : Nat), u < 10 ^ (k + 1) → Lib.nDigits u ≤ k + 1
  | 0, u, h => by rw [Lib.nDigits_small (by simpa using h)]; omega
  | k + 1, u, h => by
    by_cases h1 : u < 10
    · rw [Lib.nDigits_small h1]; omega
    · rw [Lib.nDigits_big h1]
      have := nDigits_le k (u / 10) (by rw [Nat.pow_succ] at h; omega)
      omega
theorem okB_dec {u : Nat} (h : u ≤ 999999) : okB (Lib.decDigits u) = true := by
  obtain ⟨_, h2, h3, h4⟩ := dec_back u
  have hl : (Lib.decDigits u).length ≤ 6 := by rw [Lib.decDigits_length]; exact nDigits_le 5 u (by omega)
  unfold okB plainB
  rw [h2, decide_eq_true hl]
  have he : (Lib.decDigits u).isEmpty = false := by cases hd : Lib.decDigits u with
    | nil => exact absurd hd h3
    | cons => rfl
  rw [he]
  by_cases hh : (Lib.decDigits u).head? = some 48
  · have := h4 hh
    subst this
    rw [Lib.decDigits_one (show 0 < 10 by omega)]
    rfl
  · simp [hh]
theorem okB_plain {l : List UInt8} (h : okB l = true) : plainB l = true ∧ l.length ≤ 6 ∧ l.all dig = true ∧ l ≠ [] := by
  unfold okB at h
  simp only [Bool.and_eq_true, decide_eq_true_eq] at h
  have hp := h.1.1
  refine ⟨hp, h.1.2, ?_, ?_⟩
  · unfold plainB at hp; rw [Bool.and_eq_true] at hp; exact hp.2
  · intro e; subst e; cases hp
theorem okB_num {l : List UInt8} (h : okB l = true) : numV l ≤ 999999 ∧ Lib.decDigits (numV l) = l ∧ valA l = numV l := by
  obtain ⟨hp, hl, ha, hne⟩ := okB_plain h
  have h1 := numV_lt ha
  have h2 : 10 ^ l.length ≤ 10 ^ 6 := Nat.pow_le_pow_right (by decide) hl
  refine ⟨by omega, ?_, valA_num hp (by omega)⟩
  obtain ⟨n, hn⟩ : ∃ n, l.length = n + 1 := ⟨l.length - 1, by have := List.length_pos_iff.2 hne; omega⟩
  refine dec_numV n l hn ha (fun hh => ?_)
  unfold okB at h
  rw [hh, Bool.and_eq_true] at h
  simpa using h.2
end Go.Proofs.YtijooffpjfhidaaGreatDoor.Vp
end
section
namespace Go.Proofs.YtijooffpjfhidaaGreatDoor.Vp
open Go Go.RowKit Go.Proofs.YtijooffpjfhidaaGreatDoor.Txt Go.Proofs.YtijooffpjfhidaaGreatDoor.Seq
def dl (s : ByteArray) : List UInt8 := s.data.toList
theorem dl_mk (l : List UInt8) : dl (mk l) = l := rfl
theorem mk_dl (s : ByteArray) : mk (dl s) = s := (eq_mk s).symm
theorem dl_inj {a b : ByteArray} (h : dl a = dl b) : a = b := ext h
def cutL (c : UInt8) : List UInt8 → List UInt8 × List UInt8 × Bool
  | [] => ([], [], false)
  | x :: r => if x = c then ([], r, true) else (x :: (cutL c r).1, (cutL c r).2.1, (cutL c r).2.2)
theorem cutL_index (c : UInt8) : ∀ l : List UInt8, cutL c l = if 0 ≤ Lib.indexByte l c then (l.take (Lib.indexByte l c).toNat, l.drop ((Lib.indexByte l c).toNat + 1), true) else (l, [], false)
  | [] => rfl
  | x :: r => by
    have h := cutL_index c r
    have hge := Lib.indexByte_ge r c
    unfold cutL Lib.indexByte
    by_cases hx : x = c
    · simp [hx]
    · rw [if_neg hx, h]
      by_cases h1 : Lib.indexByte r c = -1
      · simp [hx, h1]
      · have h2 : 0 ≤ Lib.indexByte r c := by omega
        have h3 : (Lib.indexByte r c + 1).toNat = (Lib.indexByte r c).toNat + 1 := by omega
        have h4 : 0 ≤ Lib.indexByte r c + 1 := by omega
        simp [hx, h1, h2, h3, h4]
theorem cutL_len (c : UInt8) : ∀ l : List UInt8, (cutL c l).1.length ≤ l.length ∧ (cutL c l).2.1.length ≤ l.length
  | [] => ⟨Nat.le_refl _, Nat.le_refl _⟩
  | x :: r => by
    have h := cutL_len c r
    unfold cutL
    split
    · simp
    · simp; omega
theorem cutB_eq (s : ByteArray) (c : UInt8) : Cut.cutB s c = (mk (cutL c s.data.toList).1, mk (cutL c s.data.toList).2.1, (cutL c s.data.toList).2.2) := by
  have hlt := Cut.indexByte_lt s.data.toList c
  rw [len] at hlt
  rw [cutL_index]
  unfold Cut.cutB
  split
  · have e1 : s.extract 0 (Lib.indexByte s.data.toList c).toNat = mk (s.data.toList.take (Lib.indexByte s.data.toList c).toNat) := ext (by rw [extract_list]; rfl)
    have e2 : s.extract ((Lib.indexByte s.data.toList c).toNat + 1) s.size = mk (s.data.toList.drop ((Lib.indexByte s.data.toList c).toNat + 1)) := ext (by
      rw [extract_list, List.take_of_length_le (by rw [len]; omega)]; rfl)
    rw [e1, e2]
  · exact congrArg (fun t => (t, _)) (eq_mk s)
theorem cutL_none {c : UInt8} : ∀ {x : List UInt8}, c ∉ x → cutL c x = (x, [], false)
  | [], _ => rfl
  | y :: x, h => by
    unfold cutL
    rw [if_neg (fun e => h (by rw [e]; exact List.mem_cons_self)), cutL_none (fun h' => h (List.mem_cons_of_mem _ h'))]
theorem cutL_some {c : UInt8} (t : List UInt8) : ∀ {x : List UInt8}, c ∉ x → cutL c (x ++ c :: t) = (x, t, true)
  | [], _ => by simp [cutL]
  | y :: x, h => by
    show cutL c (y :: (x ++ c :: t)) = _
    unfold cutL
    rw [if_neg (fun e => h (by rw [e]; exact List.mem_cons_self)), cutL_some t (fun h' => h (List.mem_cons_of_mem _ h'))]
theorem cutL_back (c : UInt8) : ∀ l : List UInt8, ((cutL c l).2.2 = true → l = (cutL c l).1 ++ c :: (cutL c l).2.1) ∧ ((cutL c l).2.2 = false → (cutL c l).1 = l ∧ (cutL c l).2.1 = [])
  | [] => ⟨(fun h => by cases h), (fun _ => ⟨rfl, rfl⟩)⟩
  | y :: l => by
    have ih := cutL_back c l
    unfold cutL
    by_cases h : y = c
    · rw [if_pos h]; exact ⟨(fun _ => by simp [h]), (fun h => by cases h)⟩
    · rw [if_neg h]
      exact ⟨(fun hm => by simp only at hm ⊢; rw [List.cons_append, ← ih.1 hm]), (fun hm => by simp only at hm ⊢; rw [(ih.2 hm).1, (ih.2 hm).2]; exact ⟨rfl, rfl⟩)⟩
def cuts (c : UInt8) : List UInt8 → List (List UInt8)
  | [] => [[]]
  | x :: r => if x = c then [] :: cuts c r else (x :: (cuts c r).headD []) :: (cuts c r).tail
theorem cuts_cons (c x : UInt8) (r : List UInt8) : cuts c (x :: r) = if x = c then [] :: cuts c r else (x :: (cuts c r).headD []) :: (cuts c r).tail := rfl
theorem cutL_cons (c x : UInt8) (r : List UInt8) : cutL c (x :: r) = if x = c then ([], r, true) else (x :: (cutL c r).1, (cutL c r).2.1, (cutL c r).2.2) := rfl
def joinC (c : UInt8) : List (List UInt8) → List UInt8
  | [] => []
  | [x] => x
  | x :: y :: t => x ++ c :: joinC c (y :: t)
theorem cuts_ne (c : UInt8) (l : List UInt8) : cuts c l ≠ [] := by
  cases l with
  | nil => simp [cuts]
  | cons x r => rw [cuts_cons]; split <;> simp
theorem cuts_cut (c : UInt8) : ∀ l : List UInt8, cuts c l = (cutL c l).1 :: (if (cutL c l).2.2 = true then cuts c (cutL c l).2.1 else [])
  | [] => rfl
  | x :: r => by
    have ih := cuts_cut c r
    rw [cuts_cons, cutL_cons]
    by_cases h : x = c
    · simp [h]
    · simp only [if_neg h]
      conv => lhs; rw [ih]
      rfl
theorem cutL_lt (c : UInt8) (l : List UInt8) (h : (cutL c l).2.2 = true) : (cutL c l).1.length + (cutL c l).2.1.length + 1 = l.length := by
  have := congrArg List.length ((cutL_back c l).1 h)
  simp at this
  omega
theorem joinC_cons (c : UInt8) (x : List UInt8) {t : List (List UInt8)} (h : t ≠ []) : joinC c (x :: t) = x ++ c :: joinC c t := by
  cases t with
  | nil => exact absurd rfl h
  | cons y t => rfl
theorem joinC_head (c a : UInt8) (x : List UInt8) (t : List (List UInt8)) : joinC c ((a :: x) :: t) = a :: joinC c (x :: t) := by
  cases t <;> rfl
theorem cuts_join (c : UInt8) : ∀ l : List UInt8, joinC c (cuts c l) = l
  | [] => rfl
  | x :: r => by
    have ih := cuts_join c r
    rw [cuts_cons]
    by_cases h : x = c
    · rw [if_pos h, joinC_cons c [] (cuts_ne c r), ih, h]; rfl
    · rw [if_neg h, joinC_head]
      cases hc : cuts c r with
      | nil => exact absurd hc (cuts_ne c r)
      | cons y t => rw [hc] at ih; simp only [List.headD_cons, List.tail_cons]; rw [ih]
theorem cuts_len (c : UInt8) : ∀ l : List UInt8, (cuts c l).length ≤ l.length + 1
  | [] => by simp [cuts]
  | x :: r => by
    have ih := cuts_len c r
    rw [cuts_cons]
    split
    · simp; omega
    · simp; omega
theorem cuts_le (c : UInt8) : ∀ (l : List UInt8), ∀ x ∈ cuts c l, x.length ≤ l.length
  | [], x, hx => by simp [cuts] at hx; subst hx; simp
  | y :: r, x, hx => by
    have ih := cuts_le c r
    rw [cuts_cons] at hx
    split at hx
    · rcases List.mem_cons.1 hx with rfl | hx
      · simp
      · have := ih x hx; simp; omega
    · cases hc : cuts c r with
      | nil => exact absurd hc (cuts_ne c r)
      | cons z t =>
        rw [hc] at hx ih
        rcases List.mem_cons.1 hx with rfl | hx
        · have := ih z List.mem_cons_self; simp; omega
        · have := ih x (List.mem_cons_of_mem _ hx); simp; omega
theorem cutsF_eq (c : UInt8) : ∀ (k : Nat) (s : ByteArray), s.size < k → (cutsF c k s).map dl = cuts c (dl s)
  | 0, s, h => by omega
  | k + 1, s, h => by
    have hz := (cutB_size s c).2.2
    have hb := cutB_eq s c
    rw [cuts_cut]
    simp only [cutsF, List.map_cons]
    rw [hb] at hz ⊢
    simp only at hz ⊢
    congr 1
    change List.map dl (if (cutL c (dl s)).2.2 = true then _ else _) = _
    by_cases hm : (cutL c (dl s)).2.2 = true
    · rw [if_pos hm, if_pos hm, cutsF_eq c k _ (by have := hz hm; rw [mk_size] at this ⊢; change _ + (cutL c (dl s)).2.1.length < _ at this; change (cutL c (dl s)).2.1.length < k; omega)]
      rfl
    · rw [if_neg hm, if_neg hm]; rfl
theorem cutsL_eq (c : UInt8) (s : ByteArray) : (cutsL c s).map dl = cuts c (dl s) := cutsF_eq c _ s (by omega)
theorem cutsL_mk (c : UInt8) (s : ByteArray) : cutsL c s = (cuts c (dl s)).map mk := by
  rw [← cutsL_eq, List.map_map]
  conv => lhs; rw [← List.map_id (cutsL c s)]
  exact List.map_congr_left fun x _ => (mk_dl x).symm
end Go.Proofs.YtijooffpjfhidaaGreatDoor.Vp
end
section
namespace Go.Proofs.YtijooffpjfhidaaGreatDoor.Vp
open Go Go.RowKit Go.Proofs.YtijooffpjfhidaaGreatDoor.Txt Go.Proofs.YtijooffpjfhidaaGreatDoor.Trim Go.Proofs.YtijooffpjfhidaaGreatDoor.Num
set_option linter.unusedVariables false
structure Ord3 {α : Type} (P : α → Prop) (f : α → α → Int) : Prop where
  rng : ∀ a b, f a b = -1 ∨ f a b = 0 ∨ f a b = 1
  anti : ∀ a b, f a b = - f b a
  zero : ∀ a b, P a → P b → f a b = 0 → a = b
  trans : ∀ a b c, P a → P b → P c → f a b = -1 → f b c = -1 → f a c = -1
theorem Ord3.refl {α : Type} {P : α → Prop} {f : α → α → Int} (h : Ord3 P f) (a : α) : f a a = 0 := by have := h.anti a a; omega
theorem Ord3.weak {α : Type} {P Q : α → Prop} {f : α → α → Int} (h : Ord3 P f) (hq : ∀ a, Q a → P a) : Ord3 Q f :=
  ⟨h.rng, h.anti, fun a b ha hb => h.zero a b (hq a ha) (hq b hb), fun a b c ha hb hc => h.trans a b c (hq a ha) (hq b hb) (hq c hc)⟩
theorem Ord3.by_ {α β : Type} {P : α → Prop} {f : α → α → Int} (h : Ord3 P f) (g : β → α) (Q : β → Prop) (hq : ∀ b, Q b → P (g b)) (hg : ∀ a b, Q a → Q b → g a = g b → a = b) : Ord3 Q (fun a b => f (g a) (g b)) :=
  ⟨fun a b => h.rng _ _, fun a b => h.anti _ _, fun a b ha hb e => hg a b ha hb (h.zero _ _ (hq a ha) (hq b hb) e), fun a b c ha hb hc => h.trans _ _ _ (hq a ha) (hq b hb) (hq c hc)⟩
def cmpI (a b : Int) : Int := if a < b then -1 else if b < a then 1 else 0
theorem cmpI_ord : Ord3 (fun _ => True) cmpI where
  rng a b := by
    unfold cmpI
    by_cases h : a < b
    · simp [h]
    · by_cases h2 : b < a <;> simp [h, h2]
  anti a b := by
    unfold cmpI
    by_cases h : a < b
    · have h2 : ¬ b < a := by omega
      simp [h, h2]
    · by_cases h2 : b < a <;> simp [h, h2]
  zero a b _ _ h := by
    unfold cmpI at h
    by_cases h1 : a < b
    · rw [if_pos h1] at h; omega
    · rw [if_neg h1] at h
      by_cases h2 : b < a
      · rw [if_pos h2] at h; omega
      · omega
  trans a b c _ _ _ h1 h2 := by
    have hab : a < b := by
      unfold cmpI at h1; split at h1
      · assumption
      · split at h1 <;> omega
    have hbc : b < c := by
      unfold cmpI at h2; split at h2
      · assumption
      · split at h2 <;> omega
    unfold cmpI; rw [if_pos (by omega)]
def rowsL {α : Type} (f : α → α → Int) : List α → List α → Int
  | [], [] => 0
  | [], _ :: _ => -1
  | _ :: _, [] => 1
  | x :: a, y :: b => if f x y = 0 then rowsL f a b else f x y
section
variable {α : Type} {P : α → Prop} {f : α → α → Int}
theorem rowsL_rng (h : Ord3 P f) : ∀ a b, rowsL f a b = -1 ∨ rowsL f a b = 0 ∨ rowsL f a b = 1
  | [], [] => by simp [rowsL]
  | [], _ :: _ => by simp [rowsL]
  | _ :: _, [] => by simp [rowsL]
  | x :: a, y :: b => by
    unfold rowsL
    split
    · exact rowsL_rng h a b
    · exact h.rng x y
theorem rowsL_anti (h : Ord3 P f) : ∀ a b, rowsL f a b = - rowsL f b a
  | [], [] => by simp [rowsL]
  | [], _ :: _ => by simp [rowsL]
  | _ :: _, [] => by simp [rowsL]
  | x :: a, y :: b => by
    have h1 := h.anti x y
    have ih := rowsL_anti h a b
    unfold rowsL
    split <;> split <;> omega
theorem rowsL_zero (h : Ord3 P f) : ∀ a b, (∀ x ∈ a, P x) → (∀ x ∈ b, P x) → rowsL f a b = 0 → a = b
  | [], [], _, _, _ => rfl
  | [], _ :: _, _, _, e => by simp [rowsL] at e
  | _ :: _, [], _, _, e => by simp [rowsL] at e
  | x :: a, y :: b, ha, hb, e => by
    unfold rowsL at e
    split at e
    · rename_i h0
      rw [h.zero x y (ha x List.mem_cons_self) (hb y List.mem_cons_self) h0, rowsL_zero h a b (fun z hz => ha z (List.mem_cons_of_mem _ hz)) (fun z hz => hb z (List.mem_cons_of_mem _ hz)) e]
    · contradiction
theorem rowsL_trans (h : Ord3 P f) : ∀ a b c, (∀ x ∈ a, P x) → (∀ x ∈ b, P x) → (∀ x ∈ c, P x) → rowsL f a b = -1 → rowsL f b c = -1 → rowsL f a c = -1
  | [], [], c, _, _, _, e, _ => by simp [rowsL] at e
  | [], _ :: _, [], _, _, _, _, e => by simp [rowsL] at e
  | [], _ :: _, _ :: _, _, _, _, _, _ => by simp [rowsL]
  | _ :: _, [], c, _, _, _, e, _ => by simp [rowsL] at e
  | _ :: _, _ :: _, [], _, _, _, _, e => by simp [rowsL] at e
  | x :: a, y :: b, z :: c, ha, hb, hc, e1, e2 => by
    have px := ha x List.mem_cons_self
    have py := hb y List.mem_cons_self
    have pz := hc z List.mem_cons_self
    unfold rowsL at e1 e2 ⊢
    by_cases h1 : f x y = 0
    · rw [if_pos h1] at e1
      have hxy := h.zero x y px py h1
      rw [hxy]
      by_cases h2 : f y z = 0
      · rw [if_pos h2] at e2 ⊢
        exact rowsL_trans h a b c (fun z hz => ha z (List.mem_cons_of_mem _ hz)) (fun z hz => hb z (List.mem_cons_of_mem _ hz)) (fun z hz => hc z (List.mem_cons_of_mem _ hz)) e1 e2
      · rw [if_neg h2] at e2 ⊢; exact e2
    · rw [if_neg h1] at e1
      by_cases h2 : f y z = 0
      · have := h.zero y z py pz h2
        rw [← this, if_neg h1]; exact e1
      · rw [if_neg h2] at e2
        have := h.trans x y z px py pz e1 e2
        rw [if_neg (by omega)]; exact this
theorem rowsL_ord (h : Ord3 P f) : Ord3 (fun l : List α => ∀ x ∈ l, P x) (rowsL f) := ⟨rowsL_rng h, rowsL_anti h, rowsL_zero h, rowsL_trans h⟩
end
def cmpU (a b : UInt8) : Int := cmpI a.toNat b.toNat
theorem cmpU_ord : Ord3 (fun _ : UInt8 => True) cmpU := cmpI_ord.by_ (fun a : UInt8 => (a.toNat : Int)) _ (fun _ _ => trivial) (fun a b _ _ h => u8_eq.2 h)
def cmpB : List UInt8 → List UInt8 → Int := rowsL cmpU
theorem cmpB_ord : Ord3 (fun _ : List UInt8 => True) cmpB := (rowsL_ord cmpU_ord).weak (fun _ _ _ _ => trivial)
theorem less_cmpB : ∀ a b : List UInt8, Op.bytesLess a b = decide (cmpB a b = -1)
  | [], [] => rfl
  | [], _ :: _ => rfl
  | _ :: _, [] => rfl
  | x :: a, y :: b => by
    have ih := less_cmpB a b
    unfold cmpB at ih ⊢
    unfold rowsL
    simp only [Op.bytesLess]
    rw [ih]
    unfold cmpU cmpI
    have e1 : decide (x < y) = decide ((x.toNat : Int) < y.toNat) := by rw [decide_eq_decide, UInt8.lt_iff_toNat_lt]; omega
    by_cases h : (x.toNat : Int) < y.toNat
    · rw [e1]; simp [h]
    · by_cases h2 : (y.toNat : Int) < x.toNat
      · have : (x == y) = false := by simpa using fun e : x = y => by rw [e] at h2; omega
        rw [e1]; simp [h, h2, this]
      · have hxy : x = y := u8_eq.2 (by omega)
        rw [e1]; simp [hxy]
def partsC (a b : List UInt8) : Int :=
  if plainB a = true ∧ plainB b = true then cmpI (numV a) (numV b) else if plainB a = true then -1 else if plainB b = true then 1 else cmpB a b
def Okp (l : List UInt8) : Prop := plainB l = true → okB l = true
abbrev Ver := Int × Int × Int × ByteArray
def mayN (n : Int) : Bool := decide (0 ≤ n ∧ n ≤ 999999)
def letter (c : UInt8) : Bool := decide ((97 ≤ c.toNat ∧ c.toNat ≤ 122) ∨ (65 ≤ c.toNat ∧ c.toNat ≤ 90) ∨ (48 ≤ c.toNat ∧ c.toNat ≤ 57) ∨ c.toNat = 45)
def partB (l : List UInt8) : Bool := !l.isEmpty && decide (l.length ≤ 10) && l.all letter && (!plainB l || okB l)
def preB (l : List UInt8) : Bool := l.isEmpty || ((cuts 46 l).all partB && decide ((cuts 46 l).length ≤ 5))
def rightB (v : Ver) : Bool := mayN v.1 && mayN v.2.1 && mayN v.2.2.1 && preB (dl v.2.2.2)
def cmpP (a b : List UInt8) : Int := if a = b then 0 else if a = [] then 1 else if b = [] then -1 else rowsL partsC (cuts 46 a) (cuts 46 b)
def cmpV (a b : Ver) : Int := if cmpI a.1 b.1 = 0 then (if cmpI a.2.1 b.2.1 = 0 then (if cmpI a.2.2.1 b.2.2.1 = 0 then cmpP (dl a.2.2.2) (dl b.2.2.2) else cmpI a.2.2.1 b.2.2.1) else cmpI a.2.1 b.2.1) else cmpI a.1 b.1
theorem preB_parts {l : List UInt8} (h : preB l = true) (hne : l ≠ []) : ∀ x ∈ cuts 46 l, Okp x := by
  intro x hx
  unfold preB at h
  have : l.isEmpty = false := by cases l with
    | nil => exact absurd rfl hne
    | cons => rfl
  rw [this, Bool.false_or, Bool.and_eq_true, List.all_eq_true] at h
  have := h.1 x hx
  unfold partB at this
  intro hp
  rw [hp] at this
  simpa using (Bool.and_eq_true _ _ ▸ this).2
end Go.Proofs.YtijooffpjfhidaaGreatDoor.Vp
end
section
namespace Go.Proofs.YtijooffpjfhidaaGreatDoor.Vp
open Go Go.RowKit Go.Proofs.YtijooffpjfhidaaGreatDoor.Txt Go.Proofs.YtijooffpjfhidaaGreatDoor.Trim Go.Proofs.YtijooffpjfhidaaGreatDoor.Num
def zeroV : Ver := (0, 0, 0, mk [])
def told (v : Ver) : List UInt8 := Lib.decDigits v.1.toNat ++ 46 :: (Lib.decDigits v.2.1.toNat ++ 46 :: Lib.decDigits v.2.2.1.toNat) ++ (if dl v.2.2.2 = [] then [] else 45 :: dl v.2.2.2)
def printP (v : Ver) : List UInt8 × Bool := if rightB v = true then (told v, true) else ([], false)
def parse3 (more : Bool) (pre : List UInt8) : List (List UInt8) → Ver × Bool
  | [a, b, d] => if (okB a && okB b && okB d && !(more && pre.isEmpty) && preB pre) = true then ((numV a, numV b, numV d, mk pre), true) else (zeroV, false)
  | _ => (zeroV, false)
theorem parse3_three (more : Bool) (pre a b d : List UInt8) : parse3 more pre [a, b, d] = if (okB a && okB b && okB d && !(more && pre.isEmpty) && preB pre) = true then ((((numV a : Int), (numV b : Int), (numV d : Int), mk pre) : Ver), true) else (zeroV, false) := rfl
def parseP (s : List UInt8) : Ver × Bool := parse3 (cutL 45 s).2.2 (cutL 45 s).2.1 (cuts 46 (cutL 45 s).1)
theorem mayN_iff {n : Int} : mayN n = true ↔ 0 ≤ n ∧ n ≤ 999999 := by unfold mayN; simp
theorem right_nums {v : Ver} (h : rightB v = true) : (0 ≤ v.1 ∧ v.1 ≤ 999999) ∧ (0 ≤ v.2.1 ∧ v.2.1 ≤ 999999) ∧ (0 ≤ v.2.2.1 ∧ v.2.2.1 ≤ 999999) ∧ preB (dl v.2.2.2) = true := by
  unfold rightB at h
  simp only [Bool.and_eq_true] at h
  exact ⟨mayN_iff.1 h.1.1.1, mayN_iff.1 h.1.1.2, mayN_iff.1 h.1.2, h.2⟩
theorem parse3_cases (more : Bool) (pre : List UInt8) (l : List (List UInt8)) : (∃ a b d, l = [a, b, d]) ∨ (l.length ≠ 3 ∧ parse3 more pre l = (zeroV, false)) := by
  match l with
  | [] => exact .inr ⟨by simp, rfl⟩
  | [_] => exact .inr ⟨by simp, rfl⟩
  | [_, _] => exact .inr ⟨by simp, rfl⟩
  | [a, b, d] => exact .inl ⟨a, b, d, rfl⟩
  | _ :: _ :: _ :: _ :: _ => exact .inr ⟨by simp, rfl⟩
theorem told_parts {s : List UInt8} {a b d : List UInt8} (hc : cuts 46 (cutL 45 s).1 = [a, b, d]) (ha : okB a = true) (hb : okB b = true) (hd : okB d = true) :
    told ((numV a : Int), (numV b : Int), (numV d : Int), mk (cutL 45 s).2.1) = (cutL 45 s).1 ++ (if (cutL 45 s).2.1 = [] then [] else 45 :: (cutL 45 s).2.1) := by
  have hf := cuts_join 46 (cutL 45 s).1
  rw [hc] at hf
  unfold told
  simp only [Int.toNat_natCast, (okB_num ha).2.1, (okB_num hb).2.1, (okB_num hd).2.1, dl_mk]
  rw [← hf]
  rfl
theorem parse_right {s : List UInt8} {v : Ver} (h : parseP s = (v, true)) : rightB v = true ∧ told v = s := by
  unfold parseP at h
  rcases parse3_cases (cutL 45 s).2.2 (cutL 45 s).2.1 (cuts 46 (cutL 45 s).1) with ⟨a, b, d, hc⟩ | ⟨_, hn⟩
  · have ht := @told_parts s a b d hc
    rw [hc, parse3_three] at h
    split at h
    · rename_i hb
      simp only [Bool.and_eq_true] at hb
      obtain ⟨⟨⟨⟨ha, hb⟩, hd⟩, hm⟩, hp⟩ := hb
      obtain rfl := (Prod.mk.inj h).1
      have na := okB_num ha
      have nb := okB_num hb
      have nd := okB_num hd
      refine ⟨?_, ?_⟩
      · unfold rightB
        simp only [dl_mk, hp, Bool.and_true, Bool.and_eq_true, mayN_iff]
        omega
      · rw [ht ha hb hd]
        have hk := cutL_back 45 s
        cases hmm : (cutL 45 s).2.2 with
        | true =>
          rw [hmm] at hm
          have hne : (cutL 45 s).2.1 ≠ [] := by
            intro e
            rw [e] at hm
            cases hm
          rw [if_neg hne]
          exact (hk.1 hmm).symm
        | false =>
          have := hk.2 hmm
          rw [this.2, if_pos rfl, List.append_nil]
          exact this.1
    · cases (Prod.mk.inj h).2
  · rw [hn] at h
    cases (Prod.mk.inj h).2
theorem parse_none {s : List UInt8} {v : Ver} (h : parseP s = (v, false)) : v = zeroV := by
  unfold parseP at h
  rcases parse3_cases (cutL 45 s).2.2 (cutL 45 s).2.1 (cuts 46 (cutL 45 s).1) with ⟨a, b, d, hc⟩ | ⟨_, hn⟩
  · rw [hc, parse3_three] at h
    split at h
    · cases (Prod.mk.inj h).2
    · exact (Prod.mk.inj h).1.symm
  · rw [hn] at h
    exact (Prod.mk.inj h).1.symm
theorem told_len {v : Ver} (h : rightB v = true) : (told v).length ≤ 21 + v.2.2.2.size := by
  obtain ⟨h1, h2, h3, _⟩ := right_nums h
  have l1 := (okB_plain (okB_dec (u := v.1.toNat) (by omega))).2.1
  have l2 := (okB_plain (okB_dec (u := v.2.1.toNat) (by omega))).2.1
  have l3 := (okB_plain (okB_dec (u := v.2.2.1.toNat) (by omega))).2.1
  have hs : (dl v.2.2.2).length = v.2.2.2.size := len _
  unfold told
  by_cases he : dl v.2.2.2 = []
  · rw [if_pos he]; simp; omega
  · rw [if_neg he]; simp; omega
end Go.Proofs.YtijooffpjfhidaaGreatDoor.Vp
end
section
namespace Go.Proofs.YtijooffpjfhidaaGreatDoor.Vp
open Go Go.RowKit Go.Proofs.YtijooffpjfhidaaGreatDoor.Txt Go.Proofs.YtijooffpjfhidaaGreatDoor.Trim Go.Proofs.YtijooffpjfhidaaGreatDoor.Num Go.Proofs.YtijooffpjfhidaaGreatDoor.Seq
def cut2 : List UInt8 → List UInt8 × List UInt8 × Bool
  | [] => ([], [], false)
  | [x] => ([x], [], false)
  | x :: y :: r => if x = 124 ∧ y = 124 then ([], r, true) else (x :: (cut2 (y :: r)).1, (cut2 (y :: r)).2.1, (cut2 (y :: r)).2.2)
def cuts2 : List UInt8 → List (List UInt8)
  | [] => [[]]
  | [x] => [[x]]
  | x :: y :: r => if x = 124 ∧ y = 124 then [] :: cuts2 r else (x :: (cuts2 (y :: r)).headD []) :: (cuts2 (y :: r)).tail
theorem cut2_cons (x y : UInt8) (r : List UInt8) : cut2 (x :: y :: r) = if x = 124 ∧ y = 124 then ([], r, true) else (x :: (cut2 (y :: r)).1, (cut2 (y :: r)).2.1, (cut2 (y :: r)).2.2) := by rw [cut2]
theorem cuts2_cons (x y : UInt8) (r : List UInt8) : cuts2 (x :: y :: r) = if x = 124 ∧ y = 124 then [] :: cuts2 r else (x :: (cuts2 (y :: r)).headD []) :: (cuts2 (y :: r)).tail := by rw [cuts2]
theorem cuts2_ne (l : List UInt8) : cuts2 l ≠ [] := by
  match l with
  | [] => simp [cuts2]
  | [x] => simp [cuts2]
  | x :: y :: r => rw [cuts2_cons]; split <;> simp
theorem cuts2_cut : ∀ l : List UInt8, cuts2 l = (cut2 l).1 :: (if (cut2 l).2.2 = true then cuts2 (cut2 l).2.1 else [])
  | [] => by simp [cut2, cuts2]
  | [x] => by simp [cut2, cuts2]
  | x :: y :: r => by
    have ih := cuts2_cut (y :: r)
    rw [cuts2_cons, cut2_cons]
    by_cases h : x = 124 ∧ y = 124
    · simp only [if_pos h]; simp
    · simp only [if_neg h]
      conv => lhs; rw [ih]
      rfl
theorem pre2 (x y : UInt8) (r : List UInt8) : ([124, 124] : List UInt8).isPrefixOf (x :: y :: r) = decide (x = 124 ∧ y = 124) := by
  simp only [List.isPrefixOf, Bool.and_true]
  by_cases h1 : x = 124
  · subst h1
    by_cases h2 : y = 124
    · subst h2; rfl
    · have : ((124 : UInt8) == y) = false := beq_eq_false_iff_ne.2 (fun e => h2 e.symm)
      rw [this, decide_eq_false (fun e => h2 e.2)]; rfl
  · have : ((124 : UInt8) == x) = false := beq_eq_false_iff_ne.2 (fun e => h1 e.symm)
    rw [this, decide_eq_false (fun e => h1 e.1)]; rfl
theorem cut2_index : ∀ l : List UInt8, cut2 l = if 0 ≤ Lib.index l [124, 124] then (l.take (Lib.index l [124, 124]).toNat, l.drop ((Lib.index l [124, 124]).toNat + 2), true) else (l, [], false)
  | [] => by simp [cut2, Lib.index]
  | [x] => by
    have : Lib.index [x] [124, 124] = -1 := by simp [Lib.index, List.isPrefixOf]
    rw [this]; simp [cut2]
  | x :: y :: r => by
    have ih := cut2_index (y :: r)
    have hg := Lib.index_ge (y :: r) [124, 124]
    have hi : Lib.index (x :: y :: r) [124, 124] = if x = 124 ∧ y = 124 then 0 else if Lib.index (y :: r) [124, 124] == -1 then -1 else Lib.index (y :: r) [124, 124] + 1 := by
      conv => lhs; unfold Lib.index
      rw [pre2]
      by_cases h : x = 124 ∧ y = 124 <;> simp [h]
    rw [cut2_cons, hi]
    by_cases h : x = 124 ∧ y = 124
    · simp [h]
    · simp only [if_neg h]
      generalize Lib.index (y :: r) [124, 124] = q at *
      rw [ih]
      by_cases hq : 0 ≤ q
      · obtain ⟨n, rfl⟩ := Int.eq_ofNat_of_zero_le hq
        have h1 : ((n : Int) == -1) = false := by rw [beq_eq_false_iff_ne]; omega
        have e1 : ((n : Int) + 1).toNat = n + 1 := by omega
        rw [h1]
        simp only [Bool.false_eq_true, if_false]
        rw [if_pos hq, if_pos (by omega), e1, Int.toNat_natCast]
        simp
      · have : q = -1 := by omega
        subst this
        simp
theorem cutD_eq (s : ByteArray) : cutD s = (mk (cut2 (dl s)).1, mk (cut2 (dl s)).2.1, (cut2 (dl s)).2.2) := by
  have h := cut2_index (dl s)
  unfold cutD
  unfold dl at h ⊢
  rw [h]
  split
  · refine Prod.ext ?_ (Prod.ext ?_ rfl)
    · refine ext ?_; rw [extract_list, List.drop_zero]; rfl
    · refine ext ?_
      rw [extract_list]
      show List.drop _ (List.take s.data.size s.data.toList) = _
      rw [List.take_of_length_le (by simp)]; rfl
  · exact Prod.ext (eq_mk s) rfl
theorem cut2_lt (l : List UInt8) : (cut2 l).2.2 = true → (cut2 l).1.length + (cut2 l).2.1.length + 2 = l.length := by
  match l with
  | [] => intro h; simp [cut2] at h
  | [x] => intro h; simp [cut2] at h
  | x :: y :: r =>
    intro h
    have ih := cut2_lt (y :: r)
    rw [cut2_cons] at h ⊢
    by_cases hx : x = 124 ∧ y = 124
    · simp [hx]
    · simp only [if_neg hx] at h ⊢
      have := ih h
      simp at this ⊢; omega
theorem cutsDF_eq : ∀ (k : Nat) (s : ByteArray), s.size < k → (cutsDF k s) = (cuts2 (dl s)).map mk
  | 0, s, h => by omega
  | k + 1, s, h => by
    rw [cutsDF, cuts2_cut, cutD_eq]
    simp only [List.map_cons]
    by_cases hc : (cut2 (dl s)).2.2 = true
    · have hl := cut2_lt _ hc
      have : (dl s).length = s.size := len s
      rw [if_pos hc, if_pos hc, cutsDF_eq k _ (by rw [mk_size]; omega)]; rfl
    · rw [if_neg hc, if_neg hc]; rfl
theorem cutsD_eq (s : ByteArray) : cutsD s = (cuts2 (dl s)).map mk := cutsDF_eq _ s (by omega)
theorem cuts2_len : ∀ l : List UInt8, (cuts2 l).length ≤ l.length + 1
  | [] => by simp [cuts2]
  | [x] => by simp [cuts2]
  | x :: y :: r => by
    have ih1 := cuts2_len (y :: r)
    have ih2 := cuts2_len r
    rw [cuts2_cons]
    split <;> simp at * <;> omega
theorem cuts2_le : ∀ (l : List UInt8), ∀ x ∈ cuts2 l, x.length ≤ l.length
  | [], x, hx => by simp [cuts2] at hx; subst hx; simp
  | [y], x, hx => by simp [cuts2] at hx; subst hx; simp
  | y :: z :: r, x, hx => by
    have ih1 := cuts2_le (z :: r)
    have ih2 := cuts2_le r
    rw [cuts2_cons] at hx
    split at hx
    · rcases List.mem_cons.1 hx with rfl | hx
      · simp
      · have := ih2 x hx; simp; omega
    · cases hc : cuts2 (z :: r) with
      | nil => exact absurd hc (cuts2_ne _)
      | cons u t =>
        rw [hc] at hx ih1
        rcases List.mem_cons.1 hx with rfl | hx
        · have := ih1 u List.mem_cons_self; simp at this ⊢; omega
        · have := ih1 x (List.mem_cons_of_mem _ hx); simp at this ⊢; omega
def words (l : List UInt8) : List (List UInt8) := (cuts 32 l).filter fun w => !w.isEmpty
abbrev Bd := Int × Ver
abbrev Ran := List (List Bd)
def rightA (l : List Bd) : Bool := decide (l.length ≤ 8) && l.all fun b => decide (1 ≤ b.1 ∧ b.1 ≤ 5) && rightB b.2
def rightR (r : Ran) : Bool := decide (1 ≤ r.length ∧ r.length ≤ 8) && r.all rightA
def sgn (o : Int) : List UInt8 := if o = 1 then [61] else if o = 2 then [60] else if o = 3 then [60, 61] else if o = 4 then [62] else [62, 61]
def wordB (b : Bd) : List UInt8 := sgn b.1 ++ told b.2
def wordA (l : List Bd) : List UInt8 := if l = [] then [42] else joinC 32 (l.map wordB)
def joinD : List (List UInt8) → List UInt8
  | [] => []
  | [x] => x
  | x :: y :: t => x ++ 32 :: 124 :: 124 :: 32 :: joinD (y :: t)
def wordR (r : Ran) : List UInt8 := joinD (r.map wordA)
def printR (r : Ran) : List UInt8 × Bool := if rightR r = true then (wordR r, true) else ([], false)
def nextV (v : Ver) (tilde : Bool) : Ver :=
  if tilde = true then (v.1, v.2.1 + 1, 0, mk []) else if v.1 > 0 then (v.1 + 1, 0, 0, mk []) else if v.2.1 > 0 then (v.1, v.2.1 + 1, 0, mk []) else (v.1, v.2.1, v.2.2.1 + 1, mk [])
def opW : List UInt8 → Int × List UInt8
  | [] => (1, [])
  | c :: r => if c = 60 then (if r.head? = some 61 then (3, r.tail) else (2, r)) else if c = 62 then (if r.head? = some 61 then (5, r.tail) else (4, r)) else if c = 61 then (1, r) else (1, c :: r)
def wordP : List UInt8 → Option (List Bd)
  | [] => some []
  | c :: r => if c = 42 ∧ r = [] then some []
    else if c = 94 ∨ c = 126 then (if (parseP r).2 = true then some [(5, (parseP r).1), (2, nextV (parseP r).1 (decide (c = 126)))] else none)
    else if (parseP (opW (c :: r)).2).2 = true then some [((opW (c :: r)).1, (parseP (opW (c :: r)).2).1)] else none
def altP : List (List UInt8) → Option (List Bd)
  | [] => some []
  | w :: ws => (wordP w).bind fun a => (altP ws).bind fun b => some (a ++ b)
def altsP : List (List UInt8) → Option Ran
  | [] => some []
  | l :: ls => (altP (words l)).bind fun a => (altsP ls).bind fun r => some (a :: r)
def finR : Option Ran → Ran × Bool
  | some r => if rightR r = true then (r, true) else ([], false)
  | none => ([], false)
def parseR (s : List UInt8) : Ran × Bool := finR (altsP (cuts2 s))
theorem rightA_mem {l : List Bd} (h : rightA l = true) : l.length ≤ 8 ∧ ∀ b ∈ l, (1 ≤ b.1 ∧ b.1 ≤ 5) ∧ rightB b.2 = true := by
  unfold rightA at h
  rw [Bool.and_eq_true] at h
  refine ⟨of_decide_eq_true h.1, fun b hb => ?_⟩
  have := List.all_eq_true.1 h.2 b hb
  rw [Bool.and_eq_true] at this
  exact ⟨of_decide_eq_true this.1, this.2⟩
theorem joinD_cons (x : List UInt8) {t : List (List UInt8)} (h : t ≠ []) : joinD (x :: t) = x ++ 32 :: 124 :: 124 :: 32 :: joinD t := by
  cases t with
  | nil => exact absurd rfl h
  | cons y t => rfl
theorem rightR_mem {r : Ran} (h : rightR r = true) : (1 ≤ r.length ∧ r.length ≤ 8) ∧ ∀ l ∈ r, rightA l = true := by
  unfold rightR at h
  rw [Bool.and_eq_true] at h
  exact ⟨of_decide_eq_true h.1, List.all_eq_true.1 h.2⟩
theorem parseR_right {s : List UInt8} {r : Ran} (h : parseR s = (r, true)) : rightR r = true := by
  unfold parseR at h
  cases hc : altsP (cuts2 s) with
  | none => rw [hc] at h; simp [finR] at h
  | some q =>
    rw [hc] at h
    simp only [finR] at h
    split at h
    · rename_i hq
      obtain rfl := (Prod.mk.inj h).1
      exact hq
    · simp at h
theorem parseR_none {s : List UInt8} {r : Ran} (h : parseR s = (r, false)) : r = [] := by
  unfold parseR at h
  cases hc : altsP (cuts2 s) with
  | none => rw [hc] at h; simp [finR] at h; exact h
  | some q =>
    rw [hc] at h
    simp only [finR] at h
    split at h
    · simp at h
    · exact (Prod.mk.inj h).1.symm
end Go.Proofs.YtijooffpjfhidaaGreatDoor.Vp
end
section
namespace Go.Proofs.YtijooffpjfhidaaGreatDoor.Txt
open Go Go.RowKit Go.Proofs.YtijooffpjfhidaaGreatDoorW.PrintWords
structure Lt {α : Type} (l : List α) (i : Int) (r : List α) : Prop where
  ge : 0 ≤ i
  le : i ≤ l.length
  eq : l.drop i.toNat = r
section
variable {α : Type} {l r : List α} {i : Int} {x : α}
theorem Lt.zero (l : List α) : Lt l 0 l := ⟨by omega, by omega, rfl⟩
theorem Lt.length (h : Lt l i r) : (r.length : Int) = l.length - i := by
  have h1 := h.ge
  have h2 := h.le
  rw [← h.eq, List.length_drop]
  omega
theorem Lt.not_lt (h : Lt l i []) : ¬ i < l.length := by have := h.length; simp at this; omega
theorem Lt.lt (h : Lt l i (x :: r)) : i < l.length := by have := h.length; simp at this; omega
theorem Lt.get (h : Lt l i (x :: r)) : l[i.toNat]? = some x := by
  have := congrArg (·[0]?) h.eq
  simpa using this
theorem Lt.rd (h : Lt l i (x :: r)) (d : α) : rdOf d l i = x := by
  unfold rdOf
  rw [List.getD_eq_getElem?_getD, h.get]; rfl
theorem Lt.next (h : Lt l i (x :: r)) : Lt l (i + 1) r := by
  have h1 := h.lt
  have h0 := h.ge
  refine ⟨by omega, by omega, ?_⟩
  rw [show (i + 1).toNat = i.toNat + 1 by omega, ← List.drop_drop, h.eq]
  rfl
theorem Lt.wrap (h : Lt l i (x :: r)) (hs : l.length ≤ 4611686018427387904) : wrap64 (i + 1) = i + 1 := by
  have h1 := h.lt
  have h0 := h.ge
  unfold wrap64
  omega
end
theorem wrapS {x : Int} (h0 : 0 ≤ x) (h1 : x ≤ 4294967296) : wrap64 x = x := by unfold wrap64; omega
theorem pred {k n : Nat} (h : n < k) : ∃ m, k = m + 1 ∧ n ≤ m := ⟨k - 1, by omega, by omega⟩
end Go.Proofs.YtijooffpjfhidaaGreatDoor.Txt
end
section
namespace Go.Proofs.YtijooffpjfhidaaGreatDoor.Vp
open Go Go.RowKit Go.Proofs.YtijooffpjfhidaaGreatDoorW.PrintWords Go.Proofs.YtijooffpjfhidaaGreatDoor.Txt Go.Proofs.YtijooffpjfhidaaGreatDoor.Trim Go.Proofs.YtijooffpjfhidaaGreatDoor.Num Go.Proofs.YtijooffpjfhidaaGreatDoor.Seq Go.Proofs.YtijooffpjfhidaaGreatDoor.G
theorem dl_len (s : ByteArray) : (dl s).length = s.size := len s
theorem ne_nil (l : List UInt8) : (l != []) = !l.isEmpty := by cases l <;> rfl
theorem At0 (s : ByteArray) : At s 0 (dl s) := At.zero s
theorem rdigits_loop : ∀ (r : List UInt8) (k : Nat) (s : ByteArray) (i : Int), At s i r → s.size ≤ 4611686018427387904 → r.length < k →
    hoggetref04_digits.l0 k s i = some (r.all dig && !(dl s).isEmpty)
  | [], k, s, i, h, hs, hk => by
    obtain ⟨k, rfl, _⟩ := pred hk
    simp only [hoggetref04_digits.l0]
    rw [if_neg h.not_lt, toList_eq, ne_nil]; rfl
  | c :: r, k, s, i, h, hs, hk => by
    obtain ⟨k, rfl, hk'⟩ := pred hk
    simp only [hoggetref04_digits.l0]
    rw [if_pos h.lt, if_pos h.ge, h.byte, h.wrap hs, rdigits_loop r k s (i + 1) h.next hs (by simp at hk'; omega), List.all_cons]
    unfold dig
    by_cases a : (c.toNat : Int) < 48
    · rw [if_pos a]
      have : ¬ (48 ≤ c.toNat ∧ c.toNat ≤ 57) := by omega
      simp [this]
    · rw [if_neg a]
      by_cases b : (c.toNat : Int) > 57
      · rw [if_pos b]
        have : ¬ (48 ≤ c.toNat ∧ c.toNat ≤ 57) := by omega
        simp [this]
      · rw [if_neg b]
        have : 48 ≤ c.toNat ∧ c.toNat ≤ 57 := by omega
        simp [this]
theorem rdigits_eq (k : Nat) (s : ByteArray) (hs : s.size ≤ 4611686018427387904) (hk : s.size < k) : hoggetref04_digits.f k s = some (plainB (dl s)) := by
  unfold hoggetref04_digits.f
  rw [rdigits_loop (dl s) k s 0 (At0 s) hs (by rw [dl_len]; exact hk)]
  unfold plainB
  rw [Bool.and_comm]
theorem rnum_loop : ∀ (r : List UInt8) (k : Nat) (s : ByteArray) (x : Nat) (i : Int), At s i r → s.size ≤ 4611686018427387904 → r.all dig = true → (x + 1) * 10 ^ r.length ≤ 1000000 → r.length < k →
    hoggetref04_Number.l0 k s x i = some ((r.foldl numF x : Nat) : Int)
  | [], k, s, x, i, h, hs, ha, hx, hk => by
    obtain ⟨k, rfl, _⟩ := pred hk
    simp only [hoggetref04_Number.l0]
    rw [if_neg h.not_lt]; rfl
  | c :: r, k, s, x, i, h, hs, ha, hx, hk => by
    obtain ⟨k, rfl, hk'⟩ := pred hk
    rw [List.all_cons, Bool.and_eq_true] at ha
    have hd := dig_iff.1 ha.1
    have hp : 1 ≤ 10 ^ r.length := Nat.one_le_pow _ _ (by decide)
    rw [List.length_cons, Nat.pow_succ] at hx
    have h4 : (x + 1) * 10 * 10 ^ r.length = (x + 1) * (10 ^ r.length * 10) := by rw [Nat.mul_assoc, Nat.mul_comm 10]
    have h5 : (x + 1) * 10 ≤ (x + 1) * 10 * 10 ^ r.length := Nat.le_mul_of_pos_right _ hp
    have h6 : (x * 10 + (c.toNat - 48) + 1) * 10 ^ r.length ≤ (x + 1) * 10 * 10 ^ r.length := Nat.mul_le_mul_right _ (by omega)
    simp only [hoggetref04_Number.l0]
    rw [if_pos h.lt, if_pos h.ge, h.byte, h.wrap hs]
    have e : wrap64 (wrap64 (10 * (x : Int)) + ((c.toNat : Int) - 48) % 256) = ((numF x c : Nat) : Int) := by
      unfold numF
      rw [wrapS (x := 10 * (x : Int)) (by omega) (by omega), wrapS (by omega) (by omega)]
      omega
    rw [e, rnum_loop r k s (numF x c) (i + 1) h.next hs ha.2 (by unfold numF; omega) (by simp at hk'; omega)]
    rfl
theorem rNumber_eq (k : Nat) (s : ByteArray) (hs : s.size ≤ 4611686018427387904) (hk : s.size + 20 < k) : hoggetref04_Number.f k s = some (if okB (dl s) = true then (numV (dl s) : Int) else -1) := by
  unfold hoggetref04_Number.f
  rw [rdigits_eq k s hs (by omega)]
  simp only [Option.bind_some]
  obtain ⟨k, rfl, hk'⟩ := pred hk
  simp only [hoggetref04_Number.j0, if_true]
  have hno : okB (dl s) = false → (if okB (dl s) = true then (numV (dl s) : Int) else -1) = -1 := fun h => by rw [h]; rfl
  by_cases hp : plainB (dl s) = true
  · rw [if_pos hp]
    by_cases hl : (s.size : Int) > 6
    · rw [if_pos hl, hno]
      unfold okB
      have : ¬ (dl s).length ≤ 6 := by rw [dl_len]; omega
      simp [this]
    · rw [if_neg hl]
      cases hd : dl s with
      | nil => rw [hd] at hp; cases hp
      | cons c r =>
        have h0 := At0 s
        rw [hd] at h0 hp
        have hlen := dl_len s
        rw [hd] at hlen
        have ha : (c :: r).all dig = true := hp
        rw [if_pos h0.lt, h0.byte]
        have hok : okB (c :: r) = ((c.toNat : Int) != 48 || (c == 48 && r.isEmpty)) := by
          rw [okB_cons hp, decide_eq_true (by simp at hlen; omega), Bool.true_and]
        have hnum : hoggetref04_Number.l0 k s 0 0 = some ((numV (c :: r) : Nat) : Int) := by
          have h6 : 10 ^ (c :: r).length ≤ 10 ^ 6 := Nat.pow_le_pow_right (by decide) (by omega)
          exact rnum_loop (c :: r) k s 0 0 h0 hs ha (by omega) (by omega)
        by_cases hc : (c.toNat : Int) = 48
        · rw [if_pos hc]
          have hc' : c = 48 := u8_eq.2 hc
          cases hr : r with
          | nil =>
            rw [hr] at hlen hok hnum
            rw [decide_eq_false (by simp at hlen; omega), if_neg (by decide), hnum, if_pos]
            rw [hok, hc']; rfl
          | cons y t =>
            rw [hr] at hlen hok
            rw [decide_eq_true (by simp at hlen; omega), if_pos rfl, if_neg]
            rw [hok, hc']; simp
        · rw [if_neg hc, if_neg (by decide), hnum, if_pos]
          rw [hok]
          simp [hc]
  · rw [if_neg hp, hno]
    unfold okB
    rw [Bool.not_eq_true] at hp
    rw [hp]; rfl
theorem rpart_step (k : Nat) {s : ByteArray} {i : Int} {c : UInt8} {r : List UInt8} (h : At s i (c :: r)) (hs : s.size ≤ 4611686018427387904) :
    hoggetref04_part.l0 (k + 1) s i = if letter c = true then hoggetref04_part.l0 k s (i + 1) else some false := by
  simp only [hoggetref04_part.l0]
  rw [if_pos h.lt, if_pos h.ge, h.byte, h.wrap hs]
  generalize hoggetref04_part.l0 k s (i + 1) = X
  have hl : letter c = decide ((97 ≤ (c.toNat : Int) ∧ (c.toNat : Int) ≤ 122) ∨ (65 ≤ (c.toNat : Int) ∧ (c.toNat : Int) ≤ 90) ∨ (48 ≤ (c.toNat : Int) ∧ (c.toNat : Int) ≤ 57) ∨ (c.toNat : Int) = 45) := by
    unfold letter; rw [decide_eq_decide]; omega
  rw [hl]
  clear hl h
  generalize (c.toNat : Int) = d
  by_cases hL : (97 ≤ d ∧ d ≤ 122) ∨ (65 ≤ d ∧ d ≤ 90) ∨ (48 ≤ d ∧ d ≤ 57) ∨ d = 45
  · simp only [decide_eq_true hL, if_true]
    repeat' split
    all_goals first | rfl | (exfalso; omega)
  · simp only [decide_eq_false hL, Bool.false_eq_true, if_false]
    repeat' split
    all_goals first | rfl | (exfalso; omega)
theorem rpart_loop : ∀ (r : List UInt8) (k : Nat) (s : ByteArray) (i : Int), At s i r → s.size ≤ 4611686018427387904 → r.length + s.size + 50 < k →
    hoggetref04_part.l0 k s i = some (r.all letter && (!plainB (dl s) || okB (dl s)))
  | [], k, s, i, h, hs, hk => by
    obtain ⟨k, rfl, hk'⟩ := pred hk
    simp only [hoggetref04_part.l0]
    rw [if_neg h.not_lt, rdigits_eq k s hs (by simp at hk'; omega)]
    simp only [Option.bind_some]
    cases hp : plainB (dl s)
    · simp
    · rw [if_pos rfl, rNumber_eq k s hs (by simp at hk'; omega)]
      cases hok : okB (dl s)
      · simp
      · simp
  | c :: r, k, s, i, h, hs, hk => by
    obtain ⟨k, rfl, hk'⟩ := pred hk
    rw [rpart_step k h hs, List.all_cons]
    cases letter c
    · simp
    · rw [if_pos rfl, rpart_loop r k s (i + 1) h.next hs (by simp at hk'; omega)]; rfl
theorem rpart_eq (k : Nat) (s : ByteArray) (hs : s.size ≤ 4611686018427387904) (hk : 2 * s.size + 60 < k) : hoggetref04_part.f k s = some (partB (dl s)) := by
  unfold hoggetref04_part.f
  obtain ⟨k, rfl, hk'⟩ := pred hk
  simp only [hoggetref04_part.j0, if_true]
  have h0 := At0 s
  have hlen := dl_len s
  by_cases h1 : (s.size : Int) < 1
  · rw [if_pos h1]
    have : dl s = [] := List.length_eq_zero_iff.1 (by omega)
    rw [this]; rfl
  · rw [if_neg h1]
    have he : (dl s).isEmpty = false := by
      cases hd : dl s with
      | nil => rw [hd] at hlen; simp at hlen; omega
      | cons => rfl
    by_cases h2 : (s.size : Int) > 10
    · rw [decide_eq_true h2, if_pos rfl]
      unfold partB
      have : ¬ (dl s).length ≤ 10 := by omega
      simp [this]
    · rw [decide_eq_false h2, if_neg (by decide), rpart_loop (dl s) k s 0 h0 hs (by omega)]
      unfold partB
      have : (dl s).length ≤ 10 := by omega
      rw [he, decide_eq_true this]; rfl
theorem extract_more {s : ByteArray} {p : List UInt8} {from_ i : Int} {a : UInt8} {r : List UInt8} (h : At s i (a :: r)) (_ : 0 ≤ from_) (h1 : from_ ≤ i) (hp : s.extract from_.toNat i.toNat = mk p) : s.extract from_.toNat (i + 1).toNat = mk (p ++ [a]) := by
  have hl : dl (s.extract from_.toNat i.toNat) = p := by rw [hp]; rfl
  unfold dl at hl
  rw [extract_list] at hl
  apply ext
  rw [extract_list, mk_list, ← hl]
  have hg := h.ge
  have hlt := h.lt
  have hi : (i + 1).toNat = i.toNat + 1 := by omega
  have hget : (s.data.toList)[i.toNat]? = some a := by
    have := congrArg (·[0]?) h.eq
    simpa using this
  have hil : i.toNat < s.data.toList.length := by rw [len]; omega
  rw [hi, List.take_add_one, hget, List.drop_append_of_le_length (by rw [List.length_take]; omega)]
  rfl
theorem extract_none (s : ByteArray) (i : Nat) : s.extract i i = mk [] := by
  apply ext
  rw [extract_list]
  simp
theorem rcut_loop (b : UInt8) : ∀ (r : List UInt8) (k : Nat) (s : ByteArray) (out : List ByteArray) (from_ i : Int) (p : List UInt8), At s i r → s.size ≤ 2147483647 → 0 ≤ from_ → from_ ≤ i → s.extract from_.toNat i.toNat = mk p →
    out.length + r.length + 1 < 8796093022208 → r.length + 1 < k →
    hoggetref04_Cut.l0 k s b.toNat out from_ i = some (out ++ ((p ++ (cuts b r).headD []) :: (cuts b r).tail).map mk)
  | [], k, s, out, from_, i, p, h, hs, h0, h1, hp, ho, hk => by
    obtain ⟨k, rfl, hk'⟩ := pred hk
    obtain ⟨k, rfl, _⟩ := pred (show 0 < k by simp at hk'; omega)
    have hn := h.nil
    have hw : wrap64 (i + 1) = i + 1 := wrapS (by omega) (by omega)
    simp only [hoggetref04_Cut.l0]
    rw [if_pos (by omega), if_pos hn, if_pos h0, if_pos h1, if_pos (by simp at ho; omega), hw, if_neg (by omega), hp]
    simp [cuts]
  | a :: r, k, s, out, from_, i, p, h, hs, h0, h1, hp, ho, hk => by
    obtain ⟨k, rfl, hk'⟩ := pred hk
    have hlt := h.lt
    have hg := h.ge
    have hw := h.wrap (by omega)
    rw [List.length_cons] at ho hk'
    simp only [hoggetref04_Cut.l0]
    rw [if_pos (by omega), if_neg (by omega), if_pos hg, if_pos hlt, h.byte, hw]
    by_cases hc : (a.toNat : Int) = b.toNat
    · have hab : a = b := u8_eq.2 hc
      rw [if_pos hc, if_pos h0, if_pos h1, if_pos (by omega), hp,
        rcut_loop b r k s (out ++ [mk p]) (i + 1) (i + 1) [] h.next hs (by omega) (by omega) (extract_none _ _) (by simp; omega) (by omega)]
      rw [cuts_cons, if_pos hab]
      cases hcr : cuts b r with
      | nil => exact absurd hcr (cuts_ne b r)
      | cons y t => simp
    · have hab : ¬ a = b := fun e => hc (by rw [e])
      rw [if_neg hc, rcut_loop b r k s out from_ (i + 1) (p ++ [a]) h.next hs h0 (by omega) (extract_more h h0 h1 hp) (by omega) (by omega)]
      rw [cuts_cons, if_neg hab]
      simp
theorem rCut_eq (b : UInt8) (k : Nat) (s : ByteArray) (hs : s.size ≤ 2147483647) (hk : s.size + 1 < k) : hoggetref04_Cut.f k s b.toNat = some ((cuts b (dl s)).map mk) := by
  unfold hoggetref04_Cut.f
  have hl := dl_len s
  rw [rcut_loop b (dl s) k s [] 0 0 [] (At0 s) hs (by omega) (by omega) (extract_none s 0) (by simp; omega) (by omega)]
  cases hc : cuts b (dl s) with
  | nil => exact absurd hc (cuts_ne b _)
  | cons y t => simp
theorem rmay_eq (n : Int) : hoggetref04_may.f n = some (mayN n) := by
  unfold hoggetref04_may.f mayN
  by_cases h : n ≥ 0
  · rw [if_pos h]; congr 1; rw [decide_eq_decide]; omega
  · rw [if_neg h]; congr 1; exact (decide_eq_false (by omega)).symm
theorem rright_loop (N : Nat) (hN : N ≤ 2147483647) : ∀ (r : List ByteArray) (k : Nat) (l : List ByteArray) (i : Int), Lt l i r → l.length ≤ 2147483648 → (∀ x ∈ r, x.size ≤ N) → r.length + 2 * N + 60 < k →
    hoggetref04_Right.l0 k l i = some ((r.all fun x => partB (dl x)) && decide (l.length ≤ 5))
  | [], k, l, i, h, hl, hx, hk => by
    obtain ⟨k, rfl, _⟩ := pred hk
    simp only [hoggetref04_Right.l0]
    rw [if_neg h.not_lt, List.all_nil, Bool.true_and]
    congr 1
    rw [decide_eq_decide]; omega
  | x :: r, k, l, i, h, hl, hx, hk => by
    obtain ⟨k, rfl, hk'⟩ := pred hk
    rw [List.length_cons] at hk'
    have hxs := hx x List.mem_cons_self
    simp only [hoggetref04_Right.l0]
    rw [if_pos h.lt, if_pos h.ge, h.rd, rpart_eq k x (by omega) (by omega), h.wrap (by omega)]
    simp only [Option.bind_some, List.all_cons]
    cases partB (dl x)
    · simp
    · rw [if_pos rfl, rright_loop N hN r k l (i + 1) h.next hl (fun y hy => hx y (List.mem_cons_of_mem _ hy)) (by omega)]; rfl
theorem rRight_eq (k : Nat) (a b c : Int) (p : ByteArray) (hs : p.size ≤ 2147483647) (hk : 4 * p.size + 80 < k) : hoggetref04_Right.f k a b c p = some (rightB (a, b, c, p)) := by
  unfold hoggetref04_Right.f
  rw [rmay_eq, rmay_eq, rmay_eq]
  simp only [Option.bind_some]
  obtain ⟨k, rfl, hk'⟩ := pred hk
  simp only [hoggetref04_Right.j0, if_true, toList_eq]
  unfold rightB
  simp only
  cases mayN a
  · simp
  · rw [if_pos rfl]
    cases mayN b
    · simp
    · rw [if_pos rfl]
      cases mayN c
      · simp
      · simp only [Bool.not_true, Bool.false_eq_true, if_false, Bool.and_true, Bool.true_and]
        change (if dl p = [] then some true else _) = _
        unfold preB
        by_cases he : dl p = []
        · rw [if_pos he, he]; rfl
        · rw [if_neg he]
          have hne : (dl p).isEmpty = false := by cases hd : dl p with
            | nil => exact absurd hd he
            | cons => rfl
          have hc := rCut_eq 46 k p hs (by omega)
          have e46 : (((46 : UInt8).toNat : Nat) : Int) = 46 := rfl
          rw [e46] at hc
          have hcl := cuts_len 46 (dl p)
          rw [dl_len] at hcl
          rw [hc, hne]
          simp only [Option.bind_some, Bool.false_or]
          rw [rright_loop p.size hs _ k _ 0 (Lt.zero _) (by rw [List.length_map]; omega)
            (fun x hx => by obtain ⟨y, hy, rfl⟩ := List.mem_map.1 hx; have := cuts_le 46 _ y hy; rw [dl_len] at this; rw [mk_size]; exact this) (by rw [List.length_map]; omega)]
          rw [List.all_map, List.length_map]
          rfl
end Go.Proofs.YtijooffpjfhidaaGreatDoor.Vp
end
section
namespace Go.Proofs.YtijooffpjfhidaaGreatDoor.Vp
open Go Go.RowKit Go.Proofs.YtijooffpjfhidaaGreatDoorW.PrintWords Go.Proofs.YtijooffpjfhidaaGreatDoor.Txt Go.Proofs.YtijooffpjfhidaaGreatDoor.Trim Go.Proofs.YtijooffpjfhidaaGreatDoor.Num Go.Proofs.YtijooffpjfhidaaGreatDoor.Seq Go.Proofs.YtijooffpjfhidaaGreatDoor.G
def flat5 (R : Ver × Bool) : Int × Int × Int × ByteArray × Bool := (R.1.1, R.1.2.1, R.1.2.2.1, R.1.2.2.2, R.2)
theorem e46 : (⟨#[46]⟩ : ByteArray) = mk [46] := rfl
theorem e45 : (⟨#[45]⟩ : ByteArray) = mk [45] := rfl
theorem e0 : (⟨#[]⟩ : ByteArray) = mk [] := rfl
theorem digit_extract : ∀ n : Fin 10, ((⟨#[48, 49, 50, 51, 52, 53, 54, 55, 56, 57]⟩ : ByteArray).extract n.val (n.val + 1)).data.toList = [UInt8.ofNat (48 + n.val)] := by decide +kernel
theorem dec_len {n : Nat} (h : n ≤ 999999) : (Lib.decDigits n).length ≤ 6 := (okB_plain (okB_dec h)).2.1
theorem rText_one (k n : Nat) (h : n < 10) : hoggetref04_Text.f (k + 1) (n : Int) = some (mk (Lib.decDigits n)) := by
  have hw : wrap64 ((n : Int) + 1) = n + 1 := wrapS (by omega) (by omega)
  simp only [hoggetref04_Text.f]
  rw [if_pos (by omega), if_pos (by omega), hw, if_pos (by omega), if_pos (by omega), Lib.decDigits_one h]
  have e := digit_extract ⟨n, h⟩
  have e1 : (n : Int).toNat = n := by omega
  have e2 : ((n : Int) + 1).toNat = n + 1 := by omega
  rw [e1, e2]
  exact congrArg some (ext e)
theorem rText_eq : ∀ (k n : Nat), n ≤ 999999 → n < 10 ^ (k + 1) → hoggetref04_Text.f (k + 1) (n : Int) = some (mk (Lib.decDigits n))
  | 0, n, _, h => rText_one 0 n (by simpa using h)
  | k + 1, n, hn, h => by
    by_cases h1 : n < 10
    · exact rText_one (k + 1) n h1
    · rw [Nat.pow_succ] at h
      have h2 := rText_eq k (n / 10) (by omega) (by omega)
      have hp : 10 ≤ 10 ^ (k + 1) := by rw [Nat.pow_succ]; have := Nat.one_le_pow k 10 (by decide); omega
      have h3 := rText_eq k (n % 10) (by omega) (by omega)
      have e1 : wrap64 (Int.tdiv (n : Int) 10) = ((n / 10 : Nat) : Int) := by
        rw [Int.tdiv_eq_ediv_of_nonneg (by omega), wrapS (by omega) (by omega)]; omega
      have e2 : Int.tmod (n : Int) 10 = ((n % 10 : Nat) : Int) := by
        rw [Int.tmod_eq_emod_of_nonneg (by omega)]; omega
      have l1 := dec_len (n := n / 10) (by omega)
      have l2 := dec_len (n := n % 10) (by omega)
      rw [hoggetref04_Text.f]
      rw [if_neg (by omega), e1, e2, h2, h3]
      simp only [Option.bind_some]
      rw [if_pos (by rw [mk_size, mk_size]; omega), mk_append]
      rw [Lib.decDigits.eq_def n, dif_neg h1, Lib.decDigits_one (i := n % 10) (by omega)]
theorem rText_at (k : Nat) (n : Int) (h : 0 ≤ n ∧ n ≤ 999999) (hk : 10 ≤ k) : hoggetref04_Text.f k n = some (mk (Lib.decDigits n.toNat)) := by
  obtain ⟨k, rfl, hk'⟩ := pred (show 6 < k by omega)
  have := rText_eq k n.toNat (by omega) (by
    have : 10 ^ 6 ≤ 10 ^ (k + 1) := Nat.pow_le_pow_right (by decide) (by omega)
    omega)
  rwa [show ((n.toNat : Nat) : Int) = n by omega] at this
theorem rTold_eq (k : Nat) (v : Ver) (h : rightB v = true) (hs : v.2.2.2.size ≤ 281474976710656) (hk : 10 ≤ k) : hoggetref04_Told.f k v.1 v.2.1 v.2.2.1 v.2.2.2 = some (mk (told v)) := by
  obtain ⟨h1, h2, h3, _⟩ := right_nums h
  have l1 := dec_len (n := v.1.toNat) (by omega)
  have l2 := dec_len (n := v.2.1.toNat) (by omega)
  have l3 := dec_len (n := v.2.2.1.toNat) (by omega)
  have hl := dl_len v.2.2.2
  unfold hoggetref04_Told.f
  rw [rText_at k _ h1 hk, rText_at k _ h2 hk, rText_at k _ h3 hk]
  simp only [Option.bind_some, e46, e45, mk_append, mk_size, List.length_append, List.length_cons, List.length_nil, toList_eq]
  rw [if_pos (by omega), if_pos (by omega), if_pos (by omega), if_pos (by omega)]
  change (if dl v.2.2.2 = [] then _ else _) = _
  unfold told
  by_cases he : dl v.2.2.2 = []
  · rw [if_pos he, if_pos he]; simp
  · rw [if_neg he, if_neg he, if_pos (by omega), if_pos (by omega)]
    conv => lhs; rw [← mk_dl v.2.2.2, mk_append]
    simp
theorem rd0 (a b d : ByteArray) : rdOf ByteArray.empty [a, b, d] 0 = a := rfl
theorem rd1 (a b d : ByteArray) : rdOf ByteArray.empty [a, b, d] 1 = b := rfl
theorem rd2 (a b d : ByteArray) : rdOf ByteArray.empty [a, b, d] 2 = d := rfl
theorem rparse_end (k : Nat) (s : ByteArray) (hs : s.size ≤ 2147483647) (hk : 4 * s.size + 90 < k) :
    hoggetref04_Parse.j1 k s (mk (cutL 45 (dl s)).1) (mk (cutL 45 (dl s)).2.1) = some (flat5 (parseP (dl s))) := by
  obtain ⟨k, rfl, hk'⟩ := pred hk
  have hlen := cutL_len 45 (dl s)
  rw [dl_len] at hlen
  have hback := cutL_back 45 (dl s)
  have ht3 := @told_parts (dl s)
  unfold parseP
  simp only [hoggetref04_Parse.j1]
  have hc := rCut_eq 46 k (mk (cutL 45 (dl s)).1) (by rw [mk_size]; omega) (by rw [mk_size]; omega)
  have e46 : (((46 : UInt8).toNat : Nat) : Int) = 46 := rfl
  rw [e46, dl_mk] at hc
  rw [hc]
  simp only [Option.bind_some, List.length_map]
  revert ht3 hback hlen
  generalize hC : cutL 45 (dl s) = C
  obtain ⟨front, pre, more⟩ := C
  intro hlen hback ht3
  simp only at hlen hback ht3 ⊢
  have hle := cuts_le 46 front
  rcases parse3_cases more pre (cuts 46 front) with ⟨a, b, d, hcc⟩ | ⟨hn, hz⟩
  · rw [hcc] at hle ⊢
    have ht4 := @ht3 a b d hcc
    have ha := hle a (by simp)
    have hb := hle b (by simp)
    have hd := hle d (by simp)
    have h3 : ((([a, b, d] : List (List UInt8)).length : Nat) : Int) = 3 := rfl
    simp only [h3, if_true, (by decide : (0 : Int) < 3), (by decide : (1 : Int) < 3), (by decide : (2 : Int) < 3), List.map_cons, List.map_nil, rd0, rd1, rd2]
    have hN : ∀ x : List UInt8, x.length ≤ front.length → hoggetref04_Number.f k (mk x) = some (if okB x = true then (numV x : Int) else -1) := fun x hx => rNumber_eq k (mk x) (by rw [mk_size]; omega) (by rw [mk_size]; omega)
    rw [hN a ha, hN b hb, hN d hd]
    simp only [Option.bind_some]
    rw [rRight_eq k _ _ _ (mk pre) (by rw [mk_size]; omega) (by rw [mk_size]; omega)]
    simp only [Option.bind_some]
    rw [parse3_three]
    generalize hna : (if okB a = true then (numV a : Int) else -1) = na
    generalize hnb : (if okB b = true then (numV b : Int) else -1) = nb
    generalize hnd : (if okB d = true then (numV d : Int) else -1) = nd
    have bad : mayN (-1) = false := rfl
    have off : rightB (na, nb, nd, mk pre) = false → (if rightB (na, nb, nd, mk pre) = true then (hoggetref04_Told.f k na nb nd (mk pre)).bind fun t164 => (if t164.toList = s.toList then some (na, nb, nd, mk pre, true) else some (0, 0, 0, (⟨#[]⟩ : ByteArray), false)) else some (0, 0, 0, (⟨#[]⟩ : ByteArray), false)) = some (flat5 (zeroV, false)) := fun h => by rw [h]; rfl
    cases oa : okB a with
    | false =>
      rw [oa, if_neg (by decide)] at hna
      exact off (by unfold rightB; simp only; rw [← hna, bad]; rfl)
    | true =>
      cases ob : okB b with
      | false =>
        rw [ob, if_neg (by decide)] at hnb
        exact off (by unfold rightB; simp only; rw [← hnb, bad]; simp)
      | true =>
        cases od : okB d with
        | false =>
          rw [od, if_neg (by decide)] at hnd
          exact off (by unfold rightB; simp only; rw [← hnd, bad]; simp)
        | true =>
          rw [oa, if_pos rfl] at hna
          rw [ob, if_pos rfl] at hnb
          rw [od, if_pos rfl] at hnd
          subst hna hnb hnd
          have na := okB_num oa
          have nb := okB_num ob
          have nd := okB_num od
          have hr : rightB ((numV a : Int), (numV b : Int), (numV d : Int), mk pre) = preB pre := by
            unfold rightB
            simp only [dl_mk]
            rw [mayN_iff.2 (by omega), mayN_iff.2 (by omega), mayN_iff.2 (by omega)]
            simp
          rw [hr]
          cases hp : preB pre with
          | false => simp [flat5, zeroV, e0]
          | true =>
            rw [if_pos rfl]
            have htold := rTold_eq k ((numV a : Int), (numV b : Int), (numV d : Int), mk pre) (by rw [hr, hp]) (by simp only [mk_size]; omega) (by omega)
            simp only at htold
            rw [htold, ht4 oa ob od, Option.bind_some, toList_eq, toList_eq]
            change (if front ++ (if pre = [] then [] else 45 :: pre) = dl s then some ((numV a : Int), (numV b : Int), (numV d : Int), mk pre, true) else some ((0 : Int), (0 : Int), (0 : Int), (⟨#[]⟩ : ByteArray), false)) = _
            cases more with
            | false =>
              have hb2 := hback.2 rfl
              rw [hb2.2, if_pos rfl, List.append_nil, hb2.1, if_pos rfl]
              simp [flat5]
            | true =>
              have hb1 := hback.1 rfl
              by_cases hpe : pre = []
              · rw [if_pos hpe, List.append_nil, if_neg (fun e => by rw [e] at hb1; have := congrArg List.length hb1; simp at this), hpe]
                simp [flat5, zeroV, e0]
              · rw [if_neg hpe, if_pos hb1.symm]
                have : pre.isEmpty = false := by cases pre with
                  | nil => exact absurd rfl hpe
                  | cons => rfl
                rw [this]
                simp [flat5]
  · rw [hz, if_neg (by omega)]
    simp [flat5, zeroV, e0]
theorem rparse_loop (K : Nat) (s : ByteArray) (hs : s.size ≤ 2147483647) (R : Option (Int × Int × Int × ByteArray × Bool))
    (hJ : ∀ k, K ≤ k → hoggetref04_Parse.j1 k s (mk (cutL 45 (dl s)).1) (mk (cutL 45 (dl s)).2.1) = R) :
    ∀ (r : List UInt8) (k : Nat) (i : Int) (p : List UInt8), At s i r → dl s = p ++ r → (45 : UInt8) ∉ p → K + r.length + 1 ≤ k → hoggetref04_Parse.l0 k s s (⟨#[]⟩ : ByteArray) i = R
  | [], k, i, p, h, hp, hno, hk => by
    obtain ⟨k, rfl, hk'⟩ := pred (show K < k by omega)
    simp only [hoggetref04_Parse.l0]
    rw [if_neg h.not_lt]
    have : cutL 45 (dl s) = (dl s, [], false) := cutL_none (by rw [hp, List.append_nil]; exact hno)
    have hj := hJ k (by omega)
    rw [this] at hj
    simp only [mk_dl] at hj
    exact hj
  | c :: r, k, i, p, h, hp, hno, hk => by
    obtain ⟨k, rfl, hk'⟩ := pred (show K < k by omega)
    rw [List.length_cons] at hk
    have hlt := h.lt
    have hg := h.ge
    have hi : (p.length : Int) = i := by
      have h1 := h.length
      have h2 := congrArg List.length hp
      rw [dl_len, List.length_append] at h2
      omega
    simp only [hoggetref04_Parse.l0]
    rw [if_pos hlt, if_pos hg, h.byte, h.wrap (by omega)]
    by_cases hc : (c.toNat : Int) = 45
    · have hc' : c = 45 := u8_eq.2 hc
      rw [if_pos hc, if_pos (by omega), if_pos (by omega), if_pos (by omega)]
      have hcut : cutL 45 (dl s) = (p, r, true) := by rw [hp, hc']; exact cutL_some r hno
      have hj := hJ k (by omega)
      rw [hcut] at hj
      simp only at hj
      have x1 : s.extract 0 i.toNat = mk p := by
        apply ext
        rw [extract_list]
        change ((dl s).take i.toNat).drop 0 = p
        rw [hp, List.drop_zero, List.take_append_of_le_length (by omega), List.take_of_length_le (by omega)]
      have x2 : s.extract (i + 1).toNat s.size = mk r := by
        apply ext
        rw [extract_list, List.take_of_length_le (by rw [len]; omega)]
        exact h.next.eq
      rw [x1, x2]
      exact hj
    · rw [if_neg hc]
      refine rparse_loop K s hs R hJ r k (i + 1) (p ++ [c]) h.next (by rw [hp]; simp) ?_ (by omega)
      intro hm
      rcases List.mem_append.1 hm with hm | hm
      · exact hno hm
      · simp only [List.mem_singleton] at hm
        exact hc (by rw [← hm]; rfl)
theorem rParse_eq (k : Nat) (s : ByteArray) (hs : s.size ≤ 2147483647) (hk : 5 * s.size + 100 < k) : hoggetref04_Parse.f k s = some (flat5 (parseP (dl s))) := by
  unfold hoggetref04_Parse.f
  exact rparse_loop (4 * s.size + 91) s hs _ (fun k h => rparse_end k s hs (by omega)) (dl s) k 0 [] (At0 s) rfl (by simp) (by rw [dl_len]; omega)
theorem cmpB_less (a b : List UInt8) : (if Op.bytesLess a b = true then some (-1) else if Op.bytesLess b a = true then some 1 else some (0 : Int)) = some (cmpB a b) := by
  rw [less_cmpB, less_cmpB, cmpB_ord.anti b a]
  rcases cmpB_ord.rng a b with h | h | h <;> rw [h] <;> rfl
theorem map_dl_mk (l : List (List UInt8)) : (l.map mk).map dl = l := by
  rw [List.map_map]
  exact (List.map_congr_left (fun _ _ => rfl)).trans (List.map_id l)
def cmpT (v w : Ver) : Int := if rightB v = true ∧ rightB w = true then cmpV v w else 0
end Go.Proofs.YtijooffpjfhidaaGreatDoor.Vp
end
section
namespace Go.Proofs.YtijooffpjfhidaaGreatDoor.Vp
open Go Go.RowKit Go.Proofs.YtijooffpjfhidaaGreatDoorW.PrintWords Go.Proofs.YtijooffpjfhidaaGreatDoor.Txt Go.Proofs.YtijooffpjfhidaaGreatDoor.Trim Go.Proofs.YtijooffpjfhidaaGreatDoor.Num Go.Proofs.YtijooffpjfhidaaGreatDoor.Seq Go.Proofs.YtijooffpjfhidaaGreatDoor.G Go.Proofs.YtijooffpjfhidaaGreatDoor.Cut
theorem count_cuts (c : UInt8) : ∀ l : List UInt8, (cuts c l).length = Lib.countByte l c + 1
  | [] => rfl
  | x :: r => by
    have ih := count_cuts c r
    unfold Lib.countByte at ih ⊢
    rw [cuts_cons, List.count_cons]
    by_cases h : x = c
    · rw [if_pos h, if_pos (by simpa using h), List.length_cons, ih]
    · rw [if_neg h, if_neg (by simpa using h), List.length_cons, List.length_tail, ih]; omega
theorem idx_eq (s : ByteArray) : strings_Index.f s ⟨#[46]⟩ = some (Lib.indexByte (dl s) 46) := by
  unfold strings_Index.f
  exact if_pos rfl
theorem cnt_eq (s : ByteArray) : strings_Count.f s ⟨#[46]⟩ = some ((Lib.countByte (dl s) 46 : Nat) : Int) := by
  unfold strings_Count.f
  exact if_pos rfl
theorem scut_eq (s : ByteArray) (hs : s.size ≤ 9223372036854775807) : strings_Cut.f s ⟨#[45]⟩ = some (Cut.cutB s 45) := by
  unfold strings_Cut.f
  exact (if_pos rfl).trans (if_pos hs)
theorem wrapN (q : Nat) (h : q ≤ 4294967290) : wrap64 ((q : Int) + 1) = ((q + 1 : Nat) : Int) := by rw [wrapS (by omega) (by omega)]; omega
theorem set_take {α : Type} (L : List α) (i : Nat) (x : α) (h : i < L.length) : (L.set i x).take (i + 1) = L.take i ++ [x] := by
  rw [List.take_add_one, List.take_set_of_le (Nat.le_refl i), List.getElem?_set_self h]
  rfl
theorem split_step (k q i n : Nat) (t x1 x2 : ByteArray) (L : List ByteArray) (hidx : Lib.indexByte (dl t) 46 = (q : Int)) (h1 : t.extract 0 q = x1) (h2 : t.extract (q + 1) t.size = x2) (hq : q < t.size) (hs : t.size ≤ 2147483647) (hi : i < n) (hL : i < L.length) (hn : i ≤ 2147483647) :
    strings_genSplit.l0 (k + 1) t ⟨#[46]⟩ 0 (n : Int) L (i : Int) = strings_genSplit.l0 k x2 ⟨#[46]⟩ 0 (n : Int) (L.set i x1) ((i + 1 : Nat) : Int) := by
  have w0 : wrap64 ((q : Int) + 0) = q := by rw [Int.add_zero]; exact wrapS (by omega) (by omega)
  have w1 := wrapN q (by omega)
  have w2 := wrapN i (by omega)
  have c1 : (i : Int) < (n : Int) := by omega
  have c2 : ¬ (q : Int) < 0 := by omega
  have c3 : 0 ≤ (q : Int) := by omega
  have c4 : (q : Int) ≤ t.size := by omega
  have c5 : 0 ≤ (i : Int) := by omega
  have c6 : (i : Int) < (L.length : Int) := by omega
  have c7 : 0 ≤ ((q + 1 : Nat) : Int) := by omega
  have c8 : ((q + 1 : Nat) : Int) ≤ t.size := by omega
  have e1 : (q : Int).toNat = q := by omega
  have e2 : ((q + 1 : Nat) : Int).toNat = q + 1 := by omega
  have e3 : (i : Int).toNat = i := by omega
  simp only [strings_genSplit.l0]
  rw [if_pos c1, idx_eq, hidx, Option.bind_some, if_neg c2, w0, if_pos c3, if_pos c4, if_pos c5, if_pos c6, show (((⟨#[46]⟩ : ByteArray).size : Nat) : Int) = 1 from rfl, w1, if_pos c7, if_pos c8, w2, e1, e2, e3, h1, h2]
theorem split_loop : ∀ (j k : Nat) (t : ByteArray) (L : List ByteArray) (i : Nat), (cuts 46 (dl t)).length = j + 1 → L.length = i + j + 1 → i + j ≤ 2147483647 → t.size ≤ 2147483647 → j < k →
    strings_genSplit.l0 k t ⟨#[46]⟩ 0 ((i + j : Nat) : Int) L (i : Int) = some (L.take i ++ (cuts 46 (dl t)).map mk)
  | 0, k, t, L, i, hc, hL, hb, hs, hk => by
    obtain ⟨k, rfl, hk'⟩ := pred hk
    have hw : wrap64 ((i : Int) + 1) = i + 1 := wrapS (by omega) (by omega)
    simp only [strings_genSplit.l0]
    rw [if_neg (by omega), if_pos (by omega), if_pos (by omega), hw, if_pos (by omega), if_pos (by omega)]
    have e1 : (i : Int).toNat = i := by omega
    have e2 : ((i : Int) + 1).toNat = i + 1 := by omega
    rw [e1, e2, set_take _ _ _ (by omega)]
    have hcc := cuts_cut 46 (dl t)
    have hb2 := cutL_back 46 (dl t)
    cases hm : (cutL 46 (dl t)).2.2 with
    | true =>
      rw [hm, if_pos rfl] at hcc
      rw [hcc, List.length_cons] at hc
      have := List.length_pos_iff.2 (cuts_ne 46 (cutL 46 (dl t)).2.1)
      omega
    | false =>
      rw [hm, if_neg (by decide)] at hcc
      rw [hcc, (hb2.2 hm).1]
      simp [mk_dl]
  | j + 1, k, t, L, i, hc, hL, hb, hs, hk => by
    obtain ⟨k, rfl, hk'⟩ := pred hk
    have hcc := cuts_cut 46 (dl t)
    have hidx := cutL_index 46 (dl t)
    have hcb : Cut.cutB t 46 = (mk (cutL 46 (dl t)).1, mk (cutL 46 (dl t)).2.1, (cutL 46 (dl t)).2.2) := cutB_eq t 46
    have hlt := Cut.indexByte_lt t.data.toList 46
    rw [len] at hlt
    cases hm : (cutL 46 (dl t)).2.2 with
    | false =>
      rw [hm, if_neg (by decide)] at hcc
      rw [hcc] at hc
      simp at hc
    | true =>
      rw [hm, if_pos rfl] at hcc
      have hge : 0 ≤ Lib.indexByte (dl t) 46 := by
        apply Classical.byContradiction
        intro hn
        rw [if_neg hn] at hidx
        rw [hidx] at hm
        cases hm
      unfold Cut.cutB at hcb
      rw [if_pos (show 0 ≤ Lib.indexByte t.data.toList 46 from hge)] at hcb
      have h1 := (Prod.mk.inj hcb).1
      have h2 := (Prod.mk.inj (Prod.mk.inj hcb).2).1
      have hlt2 := cutL_lt 46 (dl t) hm
      rw [dl_len] at hlt2
      obtain ⟨q, hq⟩ := Int.eq_ofNat_of_zero_le hge
      have hq' : Lib.indexByte t.data.toList 46 = (q : Int) := hq
      rw [hq'] at h1 h2 hlt
      rw [Int.toNat_natCast] at h1 h2
      have hc2 : (cuts 46 (cutL 46 (dl t)).2.1).length = j + 1 := by rw [hcc, List.length_cons] at hc; omega
      have hsz : (mk (cutL 46 (dl t)).2.1).size ≤ 2147483647 := by rw [mk_size]; omega
      have hst := split_step k q i (i + (j + 1)) t _ _ L hq h1 h2 (Int.ofNat_lt.1 hlt) hs (by omega) (by omega) (by omega)
      have ih := split_loop j k (mk (cutL 46 (dl t)).2.1) (L.set i (mk (cutL 46 (dl t)).1)) (i + 1) hc2 (by rw [List.length_set]; omega) (by omega) hsz (by omega)
      rw [show i + 1 + j = i + (j + 1) by omega] at ih
      rw [hst]
      rw [ih, set_take _ _ _ (by omega), hcc]
      simp [dl_mk]
theorem split_eq (k : Nat) (s : ByteArray) (hs : s.size ≤ 2147483640) (hk : s.size + 10 < k) : strings_Split.f k s ⟨#[46]⟩ = some ((cuts 46 (dl s)).map mk) := by
  have hcnt := count_cuts 46 (dl s)
  have hlen := cuts_len 46 (dl s)
  rw [dl_len] at hlen
  unfold strings_Split.f strings_genSplit.f
  rw [if_neg (by decide), toList_eq, if_neg (by decide), if_pos (by decide)]
  rw [cnt_eq]
  simp only [Option.bind_some]
  change ((strings_genSplit.j0 k s ⟨#[46]⟩ 0 (wrap64 ((Lib.countByte (dl s) 46 : Nat) + 1))).bind _) = _
  obtain ⟨n, hn⟩ : ∃ n, (cuts 46 (dl s)).length = n + 1 := ⟨(cuts 46 (dl s)).length - 1, by have := List.length_pos_iff.2 (cuts_ne 46 (dl s)); omega⟩
  have e1 : wrap64 (((Lib.countByte (dl s) 46 : Nat) : Int) + 1) = ((n + 1 : Nat) : Int) := by rw [wrapS (by omega) (by omega)]; omega
  obtain ⟨k, rfl, hk'⟩ := pred hk
  simp only [strings_genSplit.j0]
  have e2 : wrap64 ((s.size : Int) + 1) = s.size + 1 := wrapS (by omega) (by omega)
  have e3 : mn ((n + 1 : Nat) : Int) ((s.size : Int) + 1) = ((n + 1 : Nat) : Int) := by unfold mn; rw [if_neg (by omega)]
  have e4 : wrap64 (((n + 1 : Nat) : Int) - 1) = ((0 + n : Nat) : Int) := by rw [wrapS (by omega) (by omega)]; omega
  rw [e1, e2, e3, e4, if_pos (by omega), if_pos (by omega)]
  have e5 : (((n + 1 : Nat) : Int)).toNat = n + 1 := by omega
  rw [e5]
  have := split_loop n k s (List.replicate (n + 1) (⟨#[]⟩ : ByteArray)) 0 hn (by simp) (by omega) (by omega) (by omega)
  rw [show ((0 : Nat) : Int) = 0 from rfl] at this
  rw [this]
  simp
theorem or32 : ∀ d : Fin 256, (Go.bits .or .u8 (d.val : Int) 32 ≥ 97 ∧ Go.bits .or .u8 (d.val : Int) 32 ≤ 122) ↔ ((97 ≤ d.val ∧ d.val ≤ 122) ∨ (65 ≤ d.val ∧ d.val ≤ 90)) := by decide +kernel
theorem ppart_step (k : Nat) {s : ByteArray} {i : Int} {c : UInt8} {r : List UInt8} (h : At s i (c :: r)) (hs : s.size ≤ 4611686018427387904) :
    version_part.l0 (k + 1) s s.size i = if letter c = true then version_part.l0 k s s.size (i + 1) else some false := by
  simp only [version_part.l0]
  rw [if_pos h.lt, if_pos h.ge, if_pos h.lt, h.byte, h.wrap hs]
  generalize version_part.l0 k s s.size (i + 1) = X
  have ho := or32 ⟨c.toNat, UInt8.toNat_lt c⟩
  simp only at ho
  have hl : letter c = decide ((97 ≤ (c.toNat : Int) ∧ (c.toNat : Int) ≤ 122) ∨ (65 ≤ (c.toNat : Int) ∧ (c.toNat : Int) ≤ 90) ∨ (48 ≤ (c.toNat : Int) ∧ (c.toNat : Int) ≤ 57) ∨ (c.toNat : Int) = 45) := by
    unfold letter; rw [decide_eq_decide]; omega
  rw [hl]
  clear hl h
  generalize Go.bits .or .u8 (c.toNat : Int) 32 = o at *
  have ho' : (o ≥ 97 ∧ o ≤ 122) ↔ ((97 ≤ (c.toNat : Int) ∧ (c.toNat : Int) ≤ 122) ∨ (65 ≤ (c.toNat : Int) ∧ (c.toNat : Int) ≤ 90)) := by rw [ho]; omega
  clear ho
  generalize (c.toNat : Int) = d at *
  by_cases hL : (97 ≤ d ∧ d ≤ 122) ∨ (65 ≤ d ∧ d ≤ 90) ∨ (48 ≤ d ∧ d ≤ 57) ∨ d = 45
  · simp only [decide_eq_true hL, if_true]
    repeat' split
    all_goals first | rfl | (exfalso; omega)
  · simp only [decide_eq_false hL, Bool.false_eq_true, if_false]
    repeat' split
    all_goals first | rfl | (exfalso; omega)
theorem number_eq (s : ByteArray) (hs : s.size ≤ 281474976710656) : version_number.f s = some (valA (dl s), plainB (dl s), okB (dl s)) := if_pos hs
theorem plain_ok (l : List UInt8) : (plainB l == okB l) = (!plainB l || okB l) := by
  cases hp : plainB l
  · have : okB l = false := by unfold okB; rw [hp]; rfl
    rw [this]; rfl
  · cases okB l <;> rfl
theorem ppart_loop : ∀ (r : List UInt8) (k : Nat) (s : ByteArray) (i : Int), At s i r → s.size ≤ 281474976710656 → r.length < k →
    version_part.l0 k s s.size i = some (r.all letter && (!(dl s).isEmpty && decide (s.size ≤ 10) && (!plainB (dl s) || okB (dl s))))
  | [], k, s, i, h, hs, hk => by
    obtain ⟨k, rfl, hk'⟩ := pred hk
    simp only [version_part.l0]
    rw [if_neg h.not_lt, number_eq s hs]
    simp only [Option.bind_some, toList_eq, plain_ok]
    change (if dl s = [] then _ else _) = _
    by_cases he : dl s = []
    · rw [if_pos he, he]; rfl
    · rw [if_neg he]
      have : (dl s).isEmpty = false := by cases hd : dl s with
        | nil => exact absurd hd he
        | cons => rfl
      rw [this]
      by_cases h10 : s.size ≤ 10
      · rw [if_pos (by omega), decide_eq_true h10]; rfl
      · rw [if_neg (by omega), decide_eq_false h10]; rfl
  | c :: r, k, s, i, h, hs, hk => by
    obtain ⟨k, rfl, hk'⟩ := pred hk
    rw [ppart_step k h (by omega), List.all_cons]
    cases letter c
    · simp
    · rw [if_pos rfl, ppart_loop r k s (i + 1) h.next hs (by simp at hk'; omega)]; rfl
theorem part_eq (k : Nat) (s : ByteArray) (hs : s.size ≤ 281474976710656) (hk : s.size < k) : version_part.f k s = some (partB (dl s)) := by
  unfold version_part.f
  rw [ppart_loop (dl s) k s 0 (At0 s) hs (by rw [dl_len]; exact hk)]
  unfold partB
  rw [dl_len]
  congr 1
  cases (dl s).isEmpty <;> cases decide (s.size ≤ 10) <;> cases (dl s).all letter <;> cases plainB (dl s) <;> cases okB (dl s) <;> rfl
theorem within_one (k : Nat) (l : List Int) (i : Int) (x : Int) (r : List Int) (h : Lt l i (x :: r)) (hl : l.length ≤ 100) : version_within.l0 (k + 1) l l.length i = if mayN x = true then version_within.l0 k l l.length (i + 1) else some false := by
  simp only [version_within.l0]
  have hr : rd l i = x := h.rd 0
  rw [if_pos h.lt, if_pos h.ge, if_pos h.lt, hr, h.wrap (by omega)]
  by_cases h1 : x < 0
  · rw [if_pos h1, if_neg (by rw [mayN_iff]; omega)]
  · rw [if_neg h1]
    by_cases h2 : x > 999999
    · rw [if_pos h2, if_neg (by rw [mayN_iff]; omega)]
    · rw [if_neg h2, if_pos (mayN_iff.2 (by omega))]
theorem within_loop : ∀ (r : List Int) (k : Nat) (l : List Int) (i : Int), Lt l i r → l.length ≤ 100 → r.length < k → version_within.l0 k l l.length i = some (r.all mayN)
  | [], k, l, i, h, hl, hk => by
    obtain ⟨k, rfl, hk'⟩ := pred hk
    simp only [version_within.l0]
    rw [if_neg h.not_lt]; rfl
  | x :: r, k, l, i, h, hl, hk => by
    obtain ⟨k, rfl, hk'⟩ := pred hk
    rw [within_one k l i x r h hl, List.all_cons]
    cases mayN x
    · simp
    · rw [if_pos rfl, within_loop r k l (i + 1) h.next hl (by simp at hk'; omega)]; rfl
theorem within_eq (k : Nat) (a b c : Int) (hk : 5 < k) : version_within.f k [a, b, c] = some (mayN a && mayN b && mayN c) := by
  unfold version_within.f
  rw [within_loop [a, b, c] k [a, b, c] 0 (Lt.zero _) (by simp) (by simp; omega)]
  simp [Bool.and_assoc]
theorem right_go (k N : Nat) (hN : N ≤ 281474976710656) (hk : N < k) : ∀ (l : List ByteArray) (n : Nat), (∀ x ∈ l, x.size ≤ N) → n ≤ 5 → version_right.go k l n = some ((l.all fun x => partB (dl x)) && decide (n + l.length ≤ 5))
  | [], n, _, hn => by
    simp only [version_right.go, List.all_nil, Bool.true_and, List.length_nil, Nat.add_zero]
    rw [decide_eq_true hn]
  | x :: l, n, hx, hn => by
    have h1 := hx x List.mem_cons_self
    simp only [version_right.go]
    rw [part_eq k x (by omega) (by omega)]
    simp only [Option.bind_some, List.all_cons, List.length_cons]
    cases partB (dl x)
    · simp
    · rw [if_neg (by decide)]
      by_cases h5 : 5 < n + 1
      · rw [if_pos h5, decide_eq_false (by omega), Bool.and_false]
      · rw [if_neg h5, right_go k N hN hk l (n + 1) (fun y hy => hx y (List.mem_cons_of_mem _ hy)) (by omega), Bool.true_and]
        rw [show n + 1 + l.length = n + (l.length + 1) by omega]
theorem right_eq (k : Nat) (v : Ver) (hs : v.2.2.2.size ≤ 140737488351232) (hk : v.2.2.2.size + 10 < k) : version_right.f k v.1 v.2.1 v.2.2.1 v.2.2.2 = some (rightB v) := by
  unfold version_right.f rightB preB
  rw [within_eq k _ _ _ (by omega), toList_eq]
  change (if (dl v.2.2.2).isEmpty = true then _ else _) = _
  cases he : (dl v.2.2.2).isEmpty with
  | true => rw [if_pos rfl]; simp
  | false =>
    rw [if_neg (by decide), if_pos (by omega), cutsL_mk, right_go k v.2.2.2.size (by omega) (by omega) _ 0 (fun x hx => by
      obtain ⟨y, hy, rfl⟩ := List.mem_map.1 hx
      have := cuts_le 46 _ y hy
      rw [dl_len] at this
      rw [mk_size]; exact this) (by omega)]
    simp only [Option.bind_some, List.all_map, List.length_map, Nat.zero_add, Bool.false_or]
    change (if ((cuts 46 (dl v.2.2.2)).all partB && decide ((cuts 46 (dl v.2.2.2)).length ≤ 5)) = true then _ else _) = _
    cases ((cuts 46 (dl v.2.2.2)).all partB && decide ((cuts 46 (dl v.2.2.2)).length ≤ 5)) <;> simp
theorem itoa_eq (n : Int) (h : 0 ≤ n ∧ n ≤ 999999) : strconv_Itoa.f n = some (mk (Lib.decDigits n.toNat)) := by
  unfold strconv_Itoa.f Lib.itoa
  rw [if_pos (by omega), if_pos (by omega), if_neg (by omega)]
theorem print_eq (k : Nat) (v : Ver) (hs : v.2.2.2.size ≤ 140737488351232) (hk : v.2.2.2.size + 10 < k) : version_Print.f k v.1 v.2.1 v.2.2.1 v.2.2.2 = some (mk (printP v).1, (printP v).2) := by
  unfold version_Print.f printP
  rw [right_eq k v hs hk]
  simp only [Option.bind_some]
  by_cases h : rightB v = true
  · obtain ⟨h1, h2, h3, _⟩ := right_nums h
    have l1 := dec_len (n := v.1.toNat) (by omega)
    have l2 := dec_len (n := v.2.1.toNat) (by omega)
    have l3 := dec_len (n := v.2.2.1.toNat) (by omega)
    have hl := dl_len v.2.2.2
    rw [if_pos h, if_pos h, itoa_eq _ h1, itoa_eq _ h2, itoa_eq _ h3]
    simp only [Option.bind_some, e46, e45, mk_append, mk_size, List.length_append, List.length_cons, List.length_nil, toList_eq]
    rw [if_pos (by omega), if_pos (by omega), if_pos (by omega), if_pos (by omega)]
    change (if dl v.2.2.2 = [] then _ else _) = _
    unfold told
    by_cases he : dl v.2.2.2 = []
    · rw [if_pos he, if_pos he]; simp
    · rw [if_neg he, if_neg he, if_pos (by omega), if_pos (by rw [ByteArray.size_append, mk_size]; simp; omega)]
      conv => lhs; rw [← mk_dl v.2.2.2, mk_append, mk_append]
      simp
  · rw [if_neg h, if_neg h]; rfl
theorem pParse_eq (k : Nat) (s : ByteArray) (hs : s.size ≤ 2147483640) (hk : s.size + 20 < k) : version_Parse.f k s = some (flat5 (parseP (dl s))) := by
  unfold version_Parse.f
  rw [scut_eq s (by omega), cutB_eq]
  simp only [Option.bind_some]
  change ((strings_Split.f k (mk (cutL 45 (dl s)).1) ⟨#[46]⟩).bind fun l => if l.length = 3 then (if ((cutL 45 (dl s)).2.2 && (mk (cutL 45 (dl s)).2.1).toList.isEmpty) = true then _ else version_Parse.go k (mk (cutL 45 (dl s)).2.1) l 0 0 0 0) else _) = _
  have hlen := cutL_len 45 (dl s)
  rw [dl_len] at hlen
  rw [split_eq k _ (by rw [mk_size]; omega) (by rw [mk_size]; omega), dl_mk, mk_toList]
  simp only [Option.bind_some, List.length_map]
  unfold parseP
  revert hlen
  generalize cutL 45 (dl s) = C
  obtain ⟨front, pre, more⟩ := C
  intro hlen
  simp only at hlen ⊢
  have hle := cuts_le 46 front
  rcases parse3_cases more pre (cuts 46 front) with ⟨a, b, d, hcc⟩ | ⟨hn, hz⟩
  · rw [hcc] at hle ⊢
    have ha := hle a (by simp)
    have hb := hle b (by simp)
    have hd := hle d (by simp)
    rw [if_pos (show ([a, b, d] : List (List UInt8)).length = 3 from rfl), parse3_three]
    cases hm : (more && pre.isEmpty) with
    | true => simp [flat5, zeroV, e0]
    | false =>
      rw [if_neg (by decide)]
      simp only [List.map_cons, List.map_nil, version_Parse.go]
      rw [number_eq (mk a) (by rw [mk_size]; omega), number_eq (mk b) (by rw [mk_size]; omega), number_eq (mk d) (by rw [mk_size]; omega)]
      simp only [Option.bind_some, dl_mk]
      cases oa : okB a with
      | false => simp [flat5, zeroV, e0]
      | true =>
        cases ob : okB b with
        | false => simp [flat5, zeroV, e0]
        | true =>
          cases od : okB d with
          | false => simp [flat5, zeroV, e0]
          | true =>
            have na := okB_num oa
            have nb := okB_num ob
            have nd := okB_num od
            have hr : rightB ((numV a : Int), (numV b : Int), (numV d : Int), mk pre) = preB pre := by
              unfold rightB
              simp only [dl_mk]
              rw [mayN_iff.2 (by omega), mayN_iff.2 (by omega), mayN_iff.2 (by omega)]
              simp
            have hre := right_eq k ((numV a : Int), (numV b : Int), (numV d : Int), mk pre) (by simp only [mk_size]; omega) (by simp only [mk_size]; omega)
            rw [hr] at hre
            simp only at hre
            simp only [Bool.true_eq_false, if_false, if_true, Nat.zero_add, Nat.reduceAdd, Nat.succ_ne_zero, Nat.reduceEqDiff, na.2.2, nb.2.2, nd.2.2]
            rw [hre]
            simp only [Option.bind_some]
            cases preB pre <;> simp [flat5, zeroV, e0]
  · rw [hz, if_neg hn]
    simp [flat5, zeroV, e0]
theorem cmpInt_eq (a b : Int) : cmp_Compare_int.f a b = some (cmpI a b) := by
  unfold cmp_Compare_int.f cmp_isNaN_int.f cmpI
  simp only [bne_self_eq_false, Option.bind_some, Bool.false_eq_true, if_false]
  by_cases h : a < b
  · rw [if_pos h, if_pos h]
  · rw [if_neg h, if_neg h]
    by_cases h2 : a > b
    · rw [if_pos h2, if_pos h2]
    · rw [if_neg h2, if_neg h2]
theorem cmpStr_eq (a b : ByteArray) : cmp_Compare_string.f a b = some (cmpB (dl a) (dl b)) := by
  unfold cmp_Compare_string.f cmp_isNaN_string.f
  simp only [bne_self_eq_false, Option.bind_some, Bool.false_eq_true, if_false, toList_eq]
  exact cmpB_less (dl a) (dl b)
theorem parts_eq (k : Nat) (x y : ByteArray) (hx : x.size ≤ 2147483647) (hy : y.size ≤ 2147483647) (ox : Okp (dl x)) (oy : Okp (dl y)) (hk : 1 ≤ k) : version_parts.f k x y = some (partsC (dl x) (dl y)) := by
  unfold version_parts.f
  rw [number_eq x (by omega), number_eq y (by omega)]
  simp only [Option.bind_some]
  obtain ⟨k, rfl, hk'⟩ := pred (show 0 < k by omega)
  simp only [version_parts.j0]
  rw [cmpInt_eq, cmpStr_eq]
  unfold partsC
  cases hpx : plainB (dl x) with
  | true =>
    cases hpy : plainB (dl y) with
    | true =>
      rw [(okB_num (ox hpx)).2.2, (okB_num (oy hpy)).2.2]
      simp
    | false => simp
  | false =>
    cases hpy : plainB (dl y) with
    | true => simp
    | false => simp
theorem rows_loop (A B : List ByteArray) (hA : A.length ≤ 2147483647) (hB : B.length ≤ 2147483647) : ∀ (ra rb : List ByteArray) (k : Nat) (i : Int), Lt A i ra → Lt B i rb → (∀ x ∈ ra, Okp (dl x) ∧ x.size ≤ 2147483647) → (∀ x ∈ rb, Okp (dl x) ∧ x.size ≤ 2147483647) → ra.length + 1 < k →
    version_rows_string.l0 k A B (mn A.length B.length) i = some (rowsL partsC (ra.map dl) (rb.map dl))
  | [], rb, k, i, hra, hrb, _, _, hk => by
    obtain ⟨k, rfl, hk'⟩ := pred hk
    have la := hra.length
    have lb := hrb.length
    have hmn : ¬ i < mn (A.length : Int) B.length := by unfold mn; simp at la; split <;> omega
    simp only [version_rows_string.l0]
    rw [if_neg hmn, cmpInt_eq]
    simp only [Option.bind_some]
    cases rb with
    | nil => simp at la lb; simp [rowsL, cmpI]; omega
    | cons y t =>
      simp at la lb
      simp only [List.map_nil, List.map_cons, rowsL]
      unfold cmpI
      rw [if_pos (by omega)]
  | x :: ra, [], k, i, hra, hrb, _, _, hk => by
    obtain ⟨k, rfl, hk'⟩ := pred hk
    have la := hra.length
    have lb := hrb.length
    simp at la lb
    have hmn : ¬ i < mn (A.length : Int) B.length := by unfold mn; split <;> omega
    simp only [version_rows_string.l0]
    rw [if_neg hmn, cmpInt_eq]
    simp only [Option.bind_some, List.map_nil, List.map_cons, rowsL]
    unfold cmpI
    rw [if_neg (by omega), if_pos (by omega)]
  | x :: ra, y :: rb, k, i, hra, hrb, ha, hb, hk => by
    rw [List.length_cons] at hk
    obtain ⟨k, rfl, hk'⟩ := pred hk
    have hx := ha x List.mem_cons_self
    have hy := hb y List.mem_cons_self
    have l1 := hra.lt
    have l2 := hrb.lt
    have hmn : i < mn (A.length : Int) B.length := by unfold mn; split <;> omega
    simp only [version_rows_string.l0]
    rw [if_pos hmn, if_pos hra.ge, if_pos hra.lt, if_pos hrb.lt, hra.rd, hrb.rd, parts_eq k x y hx.2 hy.2 hx.1 hy.1 (by omega), hra.wrap (by omega)]
    simp only [Option.bind_some, List.map_cons, rowsL]
    by_cases h0 : partsC (dl x) (dl y) = 0
    · rw [if_pos h0, if_pos h0]
      exact rows_loop A B hA hB ra rb k (i + 1) hra.next hrb.next (fun z hz => ha z (List.mem_cons_of_mem _ hz)) (fun z hz => hb z (List.mem_cons_of_mem _ hz)) (by omega)
    · rw [if_neg h0, if_neg h0]
theorem or3_eq (k : Nat) (a b c : Int) (hk : 5 < k) : cmp_Or_int.f k [a, b, c] = some (if a = 0 then (if b = 0 then c else b) else a) := by
  obtain ⟨k, rfl, _⟩ := pred (show 4 < k by omega)
  obtain ⟨k, rfl, _⟩ := pred (show 3 < k by omega)
  obtain ⟨k, rfl, _⟩ := pred (show 2 < k by omega)
  obtain ⟨k, rfl, _⟩ := pred (show 1 < k by omega)
  have r0 : rd [a, b, c] 0 = a := rfl
  have r1 : rd [a, b, c] 1 = b := rfl
  have r2 : rd [a, b, c] 2 = c := rfl
  have w1 : wrap64 (0 + 1) = 1 := by unfold wrap64; omega
  have w2 : wrap64 (1 + 1) = 2 := by unfold wrap64; omega
  have w3 : wrap64 (2 + 1) = 3 := by unfold wrap64; omega
  have hl : (([a, b, c] : List Int).length : Int) = 3 := rfl
  unfold cmp_Or_int.f
  simp only [cmp_Or_int.l0, hl, r0, w1, r1, w2, r2, w3]
  by_cases ha : a = 0 <;> by_cases hb : b = 0 <;> by_cases hc : c = 0 <;> simp [ha, hb, hc]
theorem pCompare_eq (k : Nat) (v w : Ver) (hv : v.2.2.2.size ≤ 1000000) (hw : w.2.2.2.size ≤ 1000000) (hk : 10000000 < k) : version_Compare.f k v.1 v.2.1 v.2.2.1 v.2.2.2 w.1 w.2.1 w.2.2.1 w.2.2.2 = some (cmpT v w) := by
  unfold version_Compare.f cmpT
  rw [right_eq k v (by omega) (by omega), right_eq k w (by omega) (by omega)]
  simp only [Option.bind_some]
  obtain ⟨k, rfl, hk'⟩ := pred hk
  simp only [version_Compare.j0]
  cases hrv : rightB v with
  | false => simp
  | true =>
    cases hrw : rightB w with
    | false => simp
    | true =>
      obtain ⟨_, _, _, pv⟩ := right_nums hrv
      obtain ⟨_, _, _, pw⟩ := right_nums hrw
      rw [cmpInt_eq, cmpInt_eq, cmpInt_eq]
      simp only [Bool.not_true, Bool.false_eq_true, if_false, if_true, and_self, Option.bind_some]
      rw [or3_eq k _ _ _ (by omega)]
      simp only [Option.bind_some]
      obtain ⟨k, rfl, hk'⟩ := pred (show 9999990 < k by omega)
      have hend : ∀ b : Bool, version_Compare.j1 (k + 1) 0 b v.1 v.2.1 v.2.2.1 v.2.2.2 w.1 w.2.1 w.2.2.1 w.2.2.2 = some (if b = true then 0 else if dl v.2.2.2 = [] then 1 else if dl w.2.2.2 = [] then -1 else rowsL partsC (cuts 46 (dl v.2.2.2)) (cuts 46 (dl w.2.2.2))) := by
        intro b
        simp only [version_Compare.j1, toList_eq]
        change (if b = true then _ else if dl v.2.2.2 = [] then _ else if dl w.2.2.2 = [] then _ else _) = _
        cases b with
        | true => simp
        | false =>
          simp only [Bool.false_eq_true, if_false]
          have lv := dl_len v.2.2.2
          have lw := dl_len w.2.2.2
          by_cases ea : dl v.2.2.2 = []
          · rw [if_pos ea, if_pos ea]
          · rw [if_neg ea, if_neg ea]
            by_cases eb : dl w.2.2.2 = []
            · rw [if_pos eb, if_pos eb]
            · have n1 := cuts_len 46 (dl v.2.2.2)
              have n2 := cuts_len 46 (dl w.2.2.2)
              rw [if_neg eb, if_neg eb, split_eq k _ (by omega) (by omega), split_eq k _ (by omega) (by omega)]
              simp only [Option.bind_some]
              unfold version_rows_string.f
              rw [rows_loop _ _ (by rw [List.length_map]; omega) (by rw [List.length_map]; omega) _ _ k 0 (Lt.zero _) (Lt.zero _)
                  (fun x hx => by
                    obtain ⟨y, hy, rfl⟩ := List.mem_map.1 hx
                    have := cuts_le 46 _ y hy
                    exact ⟨preB_parts pv ea y hy, by rw [mk_size]; omega⟩)
                  (fun x hx => by
                    obtain ⟨y, hy, rfl⟩ := List.mem_map.1 hx
                    have := cuts_le 46 _ y hy
                    exact ⟨preB_parts pw eb y hy, by rw [mk_size]; omega⟩) (by rw [List.length_map]; omega), map_dl_mk, map_dl_mk]
              rfl
      unfold cmpV cmpP
      by_cases h1 : cmpI v.1 w.1 = 0
      · rw [if_pos h1, if_pos h1]
        by_cases h2 : cmpI v.2.1 w.2.1 = 0
        · rw [if_pos h2, if_pos h2]
          by_cases h3 : cmpI v.2.2.1 w.2.2.1 = 0
          · rw [if_pos h3, if_pos h3, h3, hend, toList_eq, toList_eq]
            congr 1
            change (if (dl v.2.2.2 == dl w.2.2.2) = true then _ else _) = _
            by_cases eab : dl v.2.2.2 = dl w.2.2.2
            · rw [if_pos (by simpa using eab), if_pos eab]
            · rw [if_neg (by simpa using eab), if_neg eab]
          · rw [if_neg h3, if_neg h3]
            simp [version_Compare.j1]
        · rw [if_neg h2, if_neg h2, if_neg h2]
          simp [version_Compare.j1]
      · rw [if_neg h1, if_neg h1, if_neg h1]
        simp [version_Compare.j1]
end Go.Proofs.YtijooffpjfhidaaGreatDoor.Vp
end
section
namespace Go.Proofs.YtijooffpjfhidaaGreatDoor.Vp
open Go Go.RowKit Go.Proofs.YtijooffpjfhidaaGreatDoorW.PrintWords Go.Proofs.YtijooffpjfhidaaGreatDoor.Txt Go.Proofs.YtijooffpjfhidaaGreatDoor.Trim Go.Proofs.YtijooffpjfhidaaGreatDoor.Num Go.Proofs.YtijooffpjfhidaaGreatDoor.Seq Go.Proofs.YtijooffpjfhidaaGreatDoor.G
def holdsB (b : Bd) (v : Ver) : Bool :=
  if b.1 = 1 then cmpT v b.2 == 0 else if b.1 = 2 then decide (cmpT v b.2 < 0) else if b.1 = 3 then decide (cmpT v b.2 ≤ 0) else if b.1 = 4 then decide (cmpT v b.2 > 0) else decide (cmpT v b.2 ≥ 0)
def nearB (b : Bd) (v : Ver) : Bool := !(dl b.2.2.2.2).isEmpty && (decide (b.2.1 = v.1) && decide (b.2.2.1 = v.2.1) && decide (b.2.2.2.1 = v.2.2.1))
def letsA (l : List Bd) (v : Ver) : Bool := (l.all fun b => holdsB b v) && ((dl v.2.2.2).isEmpty || l.any fun b => nearB b v)
def holdsR (r : Ran) (v : Ver) : Bool := rightR r && rightB v && r.any fun l => letsA l v
def toV (x : S35) : Ver := (x.f0, x.f1, x.f2, x.f3)
def toB (b : S45) : Bd := (b.f0, toV b.f1)
def toA (l : List S45) : List Bd := l.map toB
def toR (r : List (List S45)) : Ran := r.map toA
def SzA (n : Nat) (l : List S45) : Prop := ∀ b ∈ l, b.f1.f3.size ≤ n
def SzR (n : Nat) (r : List (List S45)) : Prop := ∀ l ∈ r, SzA n l
def bigB (b : S45) : Bool := decide (b.f1.f3.size > 300)
def bigA (l : List S45) : Bool := decide (l.length > 20) || l.any bigB
def bigR (r : List (List S45)) : Bool := decide (r.length > 20) || r.any bigA
theorem big_l1 (l : List (List S45)) (hl : l.length ≤ 1000000) (K : Nat) (R : Option Bool) (i : Int) (x : List S45) (rest : List (List S45)) (hx : Lt l i (x :: rest)) (hxl : x.length ≤ 1000000) (hR : ∀ k, K ≤ k → hoggetref05_Big.l0 k (i + 1) l = R) :
    ∀ (r : List S45) (k : Nat) (j : Int), Lt x j r → K + r.length + 1 ≤ k → hoggetref05_Big.l1 k i j l = if r.any bigB = true then some true else R
  | [], k, j, h, hk => by
    obtain ⟨k, rfl, hk'⟩ := pred (show K < k by simp at hk; omega)
    have hr : rd_L4 l i = x := hx.rd _
    simp only [hoggetref05_Big.l1]
    rw [if_pos hx.ge, if_pos hx.lt, hr, if_neg h.not_lt, hx.wrap (by omega)]
    simpa using hR k (by simp at hk; omega)
  | b :: r, k, j, h, hk => by
    obtain ⟨k, rfl, hk'⟩ := pred (show K < k by simp at hk; omega)
    have hr : rd_L4 l i = x := hx.rd _
    have hb : rd_T45 x j = b := h.rd _
    have ih := big_l1 l hl K R i x rest hx hxl hR r k (j + 1) h.next (by simp at hk; omega)
    simp only [hoggetref05_Big.l1]
    rw [if_pos hx.ge, if_pos hx.lt, hr, if_pos h.lt, if_pos h.ge, hb, h.wrap (by omega)]
    unfold hoggetref04_Big.f
    have e : decide ((b.f1.f3.size : Int) > 300) = bigB b := by unfold bigB; rw [decide_eq_decide]; omega
    simp only [Option.bind_some, List.any_cons, e]
    rw [ih]
    by_cases hq : bigB b = true
    · simp [hq]
    · simp [hq]
theorem big_l0 (l : List (List S45)) (hl : l.length ≤ 1000000) : ∀ (rest : List (List S45)) (k : Nat) (i : Int), Lt l i rest → 24 * rest.length + 1 ≤ k → hoggetref05_Big.l0 k i l = some (rest.any bigA)
  | [], k, i, h, hk => by
    obtain ⟨k, rfl, hk'⟩ := pred (show 0 < k by omega)
    simp only [hoggetref05_Big.l0]
    rw [if_neg h.not_lt]; rfl
  | x :: rest, k, i, h, hk => by
    obtain ⟨k, rfl, hk'⟩ := pred (show 0 < k by omega)
    have hr : rd_L4 l i = x := h.rd _
    simp only [hoggetref05_Big.l0]
    rw [if_pos h.lt, if_pos h.ge, hr, List.any_cons]
    simp only [List.length_cons] at hk
    by_cases h20 : (x.length : Int) > 20
    · rw [if_pos h20]
      have : bigA x = true := by unfold bigA; rw [decide_eq_true (by omega)]; rfl
      rw [this]; rfl
    · rw [if_neg h20]
      have h1 := big_l1 l hl (24 * rest.length + 1) (some (rest.any bigA)) i x rest h (by omega) (fun k hk => big_l0 l hl rest k (i + 1) h.next hk) x k 0 (Lt.zero x) (by omega)
      rw [h1]
      have : bigA x = x.any bigB := by unfold bigA; rw [decide_eq_false (by omega), Bool.false_or]
      rw [this]
      cases x.any bigB <;> simp
theorem rBig_eq (k : Nat) (r : List (List S45)) (hk : 1000 < k) : hoggetref05_Big.f k r = some (bigR r) := by
  unfold hoggetref05_Big.f bigR
  by_cases h : (r.length : Int) > 20
  · rw [if_pos h, decide_eq_true (by omega)]; rfl
  · rw [if_neg h, decide_eq_false (by omega), Bool.false_or]
    exact big_l0 r (by omega) r k 0 (Lt.zero r) (by omega)
theorem bigR_false {r : List (List S45)} (h : bigR r = false) : r.length ≤ 20 ∧ (∀ l ∈ r, l.length ≤ 20) ∧ SzR 300 r := by
  unfold bigR at h
  rw [Bool.or_eq_false_iff] at h
  have hl : ∀ l ∈ r, bigA l = false := fun l hl => by
    have := List.any_eq_false.1 h.2 l hl
    simpa using this
  refine ⟨by have := of_decide_eq_false h.1; omega, fun l hm => ?_, fun l hm b hb => ?_⟩
  · have := hl l hm
    unfold bigA at this
    rw [Bool.or_eq_false_iff] at this
    have := of_decide_eq_false this.1; omega
  · have := hl l hm
    unfold bigA at this
    rw [Bool.or_eq_false_iff] at this
    have h2 := List.any_eq_false.1 this.2 b hb
    unfold bigB at h2
    simp at h2; omega
theorem own_l0 (l : List (List S45)) (hl : l.length ≤ 1000000) : ∀ (rest : List (List S45)) (k : Nat) (i : Int) (acc : List (List S45)), Lt l i rest → (∀ x ∈ rest, x.length ≤ 1000000) → acc.length + rest.length ≤ 1000000 → rest.length < k → hoggetref05_Own.l0 k i l acc = some (acc ++ rest)
  | [], k, i, acc, h, _, _, hk => by
    obtain ⟨k, rfl, hk'⟩ := pred hk
    simp only [hoggetref05_Own.l0]
    rw [if_neg h.not_lt, List.append_nil]
  | x :: rest, k, i, acc, h, hx, ha, hk => by
    obtain ⟨k, rfl, hk'⟩ := pred hk
    have hr : rd_L4 l i = x := h.rd _
    have hx1 := hx x List.mem_cons_self
    simp only [List.length_cons] at ha hk'
    simp only [hoggetref05_Own.l0, List.nil_append, List.length_nil, Nat.zero_add]
    rw [if_pos h.lt, if_pos h.ge, hr, if_pos (by omega), if_pos (by omega), h.wrap (by omega), own_l0 l hl rest k (i + 1) (acc ++ [x]) h.next (fun y hy => hx y (List.mem_cons_of_mem _ hy)) (by rw [List.length_append, List.length_singleton]; omega) (by omega)]
    simp
theorem rOwn_eq (k : Nat) (r : List (List S45)) (hl : r.length ≤ 1000) (hx : ∀ x ∈ r, x.length ≤ 1000000) (hk : r.length < k) : hoggetref05_Own.f k r = some r := by
  unfold hoggetref05_Own.f
  rw [own_l0 r (by omega) r k 0 [] (Lt.zero r) hx (by simp; omega) hk, List.nil_append]
def neB (a b : S45) : Bool := !(a.f0 == b.f0) || ((!(a.f1.f0 == b.f1.f0)) || (!(a.f1.f1 == b.f1.f1)) || (!(a.f1.f2 == b.f1.f2)) || (!(a.f1.f3.toList == b.f1.f3.toList)))
theorem neB_iff (a b : S45) : neB a b = false ↔ a = b := by
  obtain ⟨a0, ⟨a1, a2, a3, a4⟩⟩ := a
  obtain ⟨b0, ⟨b1, b2, b3, b4⟩⟩ := b
  unfold neB
  simp only [Bool.or_eq_false_iff, Bool.not_eq_false', beq_iff_eq, S45.mk.injEq, S35.mk.injEq, toList_eq]
  constructor
  · rintro ⟨rfl, ⟨⟨rfl, rfl⟩, rfl⟩, h⟩
    exact ⟨rfl, rfl, rfl, rfl, ext h⟩
  · rintro ⟨rfl, rfl, rfl, rfl, rfl⟩
    exact ⟨rfl, ⟨⟨rfl, rfl⟩, rfl⟩, rfl⟩
open Classical in
theorem same_l1 (l m : List (List S45)) (hl : l.length ≤ 1000000) (K : Nat) (R : Option Bool) (i : Int) (x y : List S45) (rl rm : List (List S45)) (hx : Lt l i (x :: rl)) (hy : Lt m i (y :: rm)) (hxl : x.length ≤ 1000000)
    (hR : ∀ k, K ≤ k → hoggetref05_Same.l0 k (i + 1) l m = R) :
    ∀ (a b : List S45) (k : Nat) (j : Int), Lt x j a → Lt y j b → a.length = b.length → K + a.length + 1 ≤ k → hoggetref05_Same.l1 k i j l m = if a = b then R else some false
  | [], b, k, j, ha, hb, hab, hk => by
    obtain ⟨k, rfl, hk'⟩ := pred (show K < k by simp at hk; omega)
    have hr : rd_L4 l i = x := hx.rd _
    obtain rfl : b = [] := by cases b; rfl; simp at hab
    simp only [hoggetref05_Same.l1]
    rw [if_pos hx.ge, if_pos hx.lt, hr, if_neg ha.not_lt, hx.wrap (by omega)]
    simpa using hR k (by simp at hk; omega)
  | u :: a, [], k, j, ha, hb, hab, hk => by simp at hab
  | u :: a, v :: b, k, j, ha, hb, hab, hk => by
    obtain ⟨k, rfl, hk'⟩ := pred (show K < k by simp at hk; omega)
    have hr : rd_L4 l i = x := hx.rd _
    have hs : rd_L4 m i = y := hy.rd _
    have hu : rd_T45 x j = u := ha.rd _
    have hv : rd_T45 y j = v := hb.rd _
    have ih := same_l1 l m hl K R i x y rl rm hx hy hxl hR a b k (j + 1) ha.next hb.next (by simpa using hab) (by simp at hk; omega)
    have hne := neB_iff u v
    unfold neB at hne
    simp only [hoggetref05_Same.l1]
    rw [if_pos hx.ge, if_pos hx.lt, hr, if_pos ha.lt, if_pos ha.ge, if_pos hy.lt, hs, if_pos hb.lt, hu, hv, ha.wrap (by omega)]
    by_cases e : u = v
    · have hn := hne.2 e
      simp only [Bool.or_assoc] at hn
      rw [if_neg (by rw [hn]; decide), ih]
      subst e
      by_cases e2 : a = b
      · rw [if_pos e2, if_pos (by rw [e2])]
      · rw [if_neg e2, if_neg (fun h => e2 (List.cons.inj h).2)]
    · have hn : ¬ neB u v = false := fun h => e ((neB_iff u v).1 h)
      unfold neB at hn
      rw [Bool.not_eq_false] at hn
      simp only [Bool.or_assoc] at hn
      rw [if_pos hn, if_neg (fun h => e (List.cons.inj h).1)]
open Classical in
theorem same_l0 (l m : List (List S45)) (hl : l.length ≤ 1000000) (M : Nat) (hM : M ≤ 1000000) : ∀ (a b : List (List S45)) (k : Nat) (i : Int), Lt l i a → Lt m i b → a.length = b.length → (∀ x ∈ a, x.length ≤ M) → (M + 2) * a.length + 1 ≤ k → hoggetref05_Same.l0 k i l m = some (decide (a = b))
  | [], b, k, i, ha, hb, hab, hs, hk => by
    obtain ⟨k, rfl, hk'⟩ := pred (show 0 < k by omega)
    obtain rfl : b = [] := by cases b; rfl; simp at hab
    simp only [hoggetref05_Same.l0]
    rw [if_neg ha.not_lt]; simp
  | u :: a, [], k, i, ha, hb, hab, hs, hk => by simp at hab
  | u :: a, v :: b, k, i, ha, hb, hab, hs, hk => by
    obtain ⟨k, rfl, hk'⟩ := pred (show 0 < k by omega)
    have hr : rd_L4 l i = u := ha.rd _
    have hs2 : rd_L4 m i = v := hb.rd _
    have hu := hs u List.mem_cons_self
    rw [List.length_cons, Nat.mul_add, Nat.mul_one] at hk
    simp only [hoggetref05_Same.l0]
    rw [if_pos ha.lt, if_pos ha.ge, if_pos hb.lt, hr, hs2]
    by_cases e : (u.length : Int) = (v.length : Int)
    · rw [if_pos e]
      have h1 := same_l1 l m hl ((M + 2) * a.length + 1) _ i u v a b ha hb (by omega) (fun k hk => same_l0 l m hl M hM a b k (i + 1) ha.next hb.next (by simpa using hab) (fun x hx => hs x (List.mem_cons_of_mem _ hx)) hk) u v k 0 (Lt.zero u) (Lt.zero v) (by omega) (by omega)
      rw [h1]
      by_cases e1 : u = v
      · subst e1
        simp
      · rw [if_neg e1, decide_eq_false (fun h => e1 (List.cons.inj h).1)]
    · rw [if_neg e, decide_eq_false (fun h => e (by rw [(List.cons.inj h).1]))]
open Classical in
theorem rSame_eq (k : Nat) (a b : List (List S45)) (M : Nat) (hM : M ≤ 1000000) (hl : a.length ≤ 1000000) (hs : ∀ x ∈ a, x.length ≤ M) (hk : (M + 2) * a.length + 1 ≤ k) : hoggetref05_Same.f k a b = some (decide (a = b)) := by
  unfold hoggetref05_Same.f
  by_cases h : (a.length : Int) = (b.length : Int)
  · rw [if_pos h]
    exact same_l0 a b hl M hM a b k 0 (Lt.zero a) (Lt.zero b) (by omega) hs hk
  · rw [if_neg h, decide_eq_false (fun e => h (by rw [e]))]
end Go.Proofs.YtijooffpjfhidaaGreatDoor.Vp
end
section
namespace Go.Proofs.YtijooffpjfhidaaGreatDoor.Vp
open Go Go.RowKit Go.Proofs.YtijooffpjfhidaaGreatDoorW.PrintWords Go.Proofs.YtijooffpjfhidaaGreatDoor.Txt Go.Proofs.YtijooffpjfhidaaGreatDoor.Trim Go.Proofs.YtijooffpjfhidaaGreatDoor.Num Go.Proofs.YtijooffpjfhidaaGreatDoor.Seq Go.Proofs.YtijooffpjfhidaaGreatDoor.G
def boundOk (b : Bd) : Bool := decide (1 ≤ b.1 ∧ b.1 ≤ 5) && rightB b.2
theorem rightA_def (l : List Bd) : rightA l = (decide (l.length ≤ 8) && l.all boundOk) := rfl
theorem toA_cons (b : S45) (l : List S45) : toA (b :: l) = toB b :: toA l := rfl
theorem toR_cons (b : List S45) (l : List (List S45)) : toR (b :: l) = toA b :: toR l := rfl
theorem toA_len (l : List S45) : (toA l).length = l.length := List.length_map _
theorem toR_len (l : List (List S45)) : (toR l).length = l.length := List.length_map _
theorem rRight05_l1 (l : List (List S45)) (hl : l.length ≤ 1000000) (S K : Nat) (hS : S ≤ 2147483647) (hK : 4 * S + 80 < K) (R : Option Bool) (i : Int) (x : List S45) (rest : List (List S45)) (hx : Lt l i (x :: rest)) (hxl : x.length ≤ 1000000) (hR : ∀ k, K ≤ k → hoggetref05_Right.l0 k (i + 1) l = R) :
    ∀ (r : List S45) (k : Nat) (j : Int), Lt x j r → SzA S r → K + r.length + 1 ≤ k → hoggetref05_Right.l1 k i j l = if (toA r).all boundOk = true then R else some false
  | [], k, j, h, _, hk => by
    obtain ⟨k, rfl, hk'⟩ := pred (show K < k by simp at hk; omega)
    have hr : rd_L4 l i = x := hx.rd _
    simp only [hoggetref05_Right.l1]
    rw [if_pos hx.ge, if_pos hx.lt, hr, if_neg h.not_lt, hx.wrap (by omega)]
    simpa [toA] using hR k (by simp at hk; omega)
  | b :: r, k, j, h, hs, hk => by
    obtain ⟨k, rfl, hk'⟩ := pred (show K < k by simp at hk; omega)
    have hr : rd_L4 l i = x := hx.rd _
    have hb : rd_T45 x j = b := h.rd _
    have hbs := hs b List.mem_cons_self
    have ih := rRight05_l1 l hl S K hS hK R i x rest hx hxl hR r k (j + 1) h.next (fun c hc => hs c (List.mem_cons_of_mem _ hc)) (by simp at hk; omega)
    simp only [hoggetref05_Right.l1]
    rw [if_pos hx.ge, if_pos hx.lt, hr, if_pos h.lt, if_pos h.ge, hb, h.wrap (by omega), rRight_eq k _ _ _ _ (by omega) (by omega), ih]
    simp only [Option.bind_some]
    have hv : rightB (b.f1.f0, b.f1.f1, b.f1.f2, b.f1.f3) = rightB (toB b).2 := rfl
    rw [hv]
    have hO : boundOk (toB b) = (decide (1 ≤ b.f0 ∧ b.f0 ≤ 5) && rightB (toB b).2) := rfl
    have hall : (toA (b :: r)).all boundOk = (boundOk (toB b) && (toA r).all boundOk) := rfl
    by_cases c1 : b.f0 < 1
    · rw [if_pos c1, if_neg (by rw [hall, hO, decide_eq_false (by omega)]; simp)]
    · rw [if_neg c1]
      by_cases c2 : b.f0 > 5
      · rw [if_pos c2, if_neg (by rw [hall, hO, decide_eq_false (by omega)]; simp)]
      · rw [if_neg c2]
        rw [decide_eq_true (show 1 ≤ b.f0 ∧ b.f0 ≤ 5 by omega), Bool.true_and] at hO
        by_cases hq : rightB (toB b).2 = true
        · rw [hq] at hO
          rw [if_pos hq]
          by_cases ha : (toA r).all boundOk = true
          · rw [if_pos ha, if_pos (by rw [hall, hO, ha]; rfl)]
          · rw [if_neg ha, if_neg (by rw [hall, hO]; simpa using ha)]
        · rw [if_neg hq, if_neg]
          rw [Bool.not_eq_true] at hq
          rw [hall, hO, hq]; simp
theorem rRight05_l0 (l : List (List S45)) (hl : l.length ≤ 1000000) (S C : Nat) (hS : S ≤ 2147483647) (hC : 4 * S + 80 < C) : ∀ (rest : List (List S45)) (k : Nat) (i : Int), Lt l i rest → SzR S rest → 12 * rest.length + C ≤ k → hoggetref05_Right.l0 k i l = some ((toR rest).all rightA)
  | [], k, i, h, _, hk => by
    obtain ⟨k, rfl, hk'⟩ := pred (show 0 < k by omega)
    simp only [hoggetref05_Right.l0]
    rw [if_neg h.not_lt]; rfl
  | x :: rest, k, i, h, hs, hk => by
    obtain ⟨k, rfl, hk'⟩ := pred (show 0 < k by omega)
    have hr : rd_L4 l i = x := h.rd _
    simp only [hoggetref05_Right.l0]
    rw [if_pos h.lt, if_pos h.ge, hr, toR_cons, List.all_cons, rightA_def, toA_len]
    simp only [List.length_cons] at hk
    by_cases h8 : (x.length : Int) > 8
    · rw [if_pos h8, decide_eq_false (by omega)]; rfl
    · rw [if_neg h8, decide_eq_true (by omega), Bool.true_and]
      rw [rRight05_l1 l hl S (12 * rest.length + C) hS (by omega) (some ((toR rest).all rightA)) i x rest h (by omega) (fun k hk => rRight05_l0 l hl S C hS hC rest k (i + 1) h.next (fun y hy => hs y (List.mem_cons_of_mem _ hy)) hk) x k 0 (Lt.zero x) (hs x List.mem_cons_self) (by omega)]
      by_cases hq : (toA x).all boundOk = true
      · simp [hq]
      · simp [hq]
theorem rRight05_eq (k : Nat) (r : List (List S45)) (S : Nat) (hS : S ≤ 2147483647) (hs : SzR S r) (hk : 4 * S + 300 < k) : hoggetref05_Right.f k r = some (rightR (toR r)) := by
  unfold hoggetref05_Right.f rightR
  rw [toR_len]
  obtain ⟨k, rfl, hk'⟩ := pred (show 0 < k by omega)
  simp only [hoggetref05_Right.j0]
  by_cases h1 : (r.length : Int) < 1
  · rw [if_pos h1, decide_eq_false (by omega)]; rfl
  · rw [if_neg h1]
    by_cases h8 : (r.length : Int) > 8
    · rw [decide_eq_true h8, decide_eq_false (by omega)]; rfl
    · rw [decide_eq_false h8, decide_eq_true (by omega), if_neg (by decide), Bool.true_and]
      exact rRight05_l0 r (by omega) S (4 * S + 81) hS (by omega) r k 0 (Lt.zero r) hs (by omega)
theorem rsign_eq (o : Int) : hoggetref05_sign.f o = some (mk (sgn o)) := by
  unfold hoggetref05_sign.f sgn
  (repeat' split) <;> rfl
theorem mk_app (s : ByteArray) (l : List UInt8) : s ++ mk l = mk (dl s ++ l) := by
  conv => lhs; rw [← mk_dl s]
  exact mk_append _ _
def tailA : List Bd → List UInt8
  | [] => []
  | b :: l => 32 :: wordB b ++ tailA l
def bodyA : List Bd → List UInt8
  | [] => []
  | b :: l => wordB b ++ tailA l
theorem joinC_body : ∀ l : List Bd, joinC 32 (l.map wordB) = bodyA l
  | [] => rfl
  | [b] => by simp [joinC, bodyA, tailA]
  | b :: c :: l => by
    have ih := joinC_body (c :: l)
    rw [List.map_cons, joinC_cons 32 _ (by simp), ih]
    simp [bodyA, tailA]
theorem wordA_body (l : List Bd) : wordA l = if l = [] then [42] else bodyA l := by unfold wordA; rw [joinC_body]
def tailD : List (List Bd) → List UInt8
  | [] => []
  | l :: r => 32 :: 124 :: 124 :: 32 :: wordA l ++ tailD r
theorem joinD_tail : ∀ (l : List Bd) (r : List (List Bd)), joinD ((l :: r).map wordA) = wordA l ++ tailD r
  | l, [] => by simp [joinD, tailD]
  | l, m :: r => by
    have ih := joinD_tail m r
    rw [List.map_cons, joinD_cons _ (by simp), ih]
    simp [tailD]
def lenA (l : List S45) : Nat := (l.map fun b => 30 + b.f1.f3.size).sum
def lenR (r : List (List S45)) : Nat := (r.map fun l => 10 + lenA l).sum
theorem wordB_len {b : S45} (h : boundOk (toB b) = true) : (wordB (toB b)).length ≤ 25 + b.f1.f3.size := by
  unfold boundOk at h
  rw [Bool.and_eq_true] at h
  have ht := told_len h.2
  have h3 : (toB b).2.2.2.2.size = b.f1.f3.size := rfl
  rw [h3] at ht
  have hs : (sgn (toB b).1).length ≤ 2 := by unfold sgn; (repeat' split) <;> simp
  unfold wordB
  rw [List.length_append]; omega
theorem rWord_l1 (l : List (List S45)) (hl : l.length ≤ 1000000) (K M : Nat) (hM : M ≤ 4611686018427387904) (hK : 20 ≤ K) (R : ByteArray → Option ByteArray) (i : Int) (x : List S45) (rest : List (List S45)) (hx : Lt l i (x :: rest)) (hxl : x.length ≤ 1000000)
    (hR : ∀ k s, K ≤ k → s.size ≤ M → hoggetref05_Word.l0 k s (i + 1) l = R s) :
    ∀ (r : List S45) (k : Nat) (j : Int) (s : ByteArray), Lt x j r → SzA 281474976710656 r → (toA r).all boundOk = true → s.size + lenA r ≤ M → K + r.length + 1 ≤ k →
      hoggetref05_Word.l1 k s i j l = R (s ++ mk (if j > 0 then tailA (toA r) else bodyA (toA r)))
  | [], k, j, s, h, _, _, hm, hk => by
    obtain ⟨k, rfl, hk'⟩ := pred (show K < k by simp at hk; omega)
    have hr : rd_L4 l i = x := hx.rd _
    simp only [hoggetref05_Word.l1]
    rw [if_pos hx.ge, if_pos hx.lt, hr, if_neg h.not_lt, hx.wrap (by omega), hR k s (by simp at hk; omega) (by omega)]
    have : (if j > 0 then tailA (toA []) else bodyA (toA [])) = [] := by split <;> rfl
    rw [this, mk_app, List.append_nil, mk_dl]
  | b :: r, k, j, s, h, hs, ho, hm, hk => by
    obtain ⟨k, rfl, hk'⟩ := pred (show K < k by simp at hk; omega)
    have hr : rd_L4 l i = x := hx.rd _
    have hb : rd_T45 x j = b := h.rd _
    rw [toA_cons, List.all_cons, Bool.and_eq_true] at ho
    have hbl := wordB_len ho.1
    have hrb : rightB (toV b.f1) = true := by have := ho.1; unfold boundOk at this; rw [Bool.and_eq_true] at this; exact this.2
    have htold := rTold_eq k (toV b.f1) hrb (hs b List.mem_cons_self) (by simp at hk; omega)
    have e1 : hoggetref04_Told.f k b.f1.f0 b.f1.f1 b.f1.f2 b.f1.f3 = some (mk (told (toV b.f1))) := htold
    have hw : wordB (toB b) = sgn b.f0 ++ told (toV b.f1) := rfl
    have hmm : lenA (b :: r) = 30 + b.f1.f3.size + lenA r := by simp [lenA]
    rw [hmm] at hm
    rw [hw, List.length_append] at hbl
    have hg := h.ge
    have ih := fun s' hs' => rWord_l1 l hl K M hM hK R i x rest hx hxl hR r k (j + 1) s' h.next (fun c hc => hs c (List.mem_cons_of_mem _ hc)) ho.2 hs' (by simp at hk; omega)
    simp only [hoggetref05_Word.l1]
    rw [if_pos hx.ge, if_pos hx.lt, hr, if_pos h.lt, hb, h.wrap (by omega), rsign_eq]
    simp only [Option.bind_some, e1, if_pos hg]
    have e32 : (⟨#[32]⟩ : ByteArray) = mk [32] := rfl
    have sz : ∀ (s : ByteArray) (l : List UInt8), (s ++ mk l).size = s.size + l.length := fun s l => by rw [ByteArray.size_append, mk_size]
    have hj1 : j + 1 > 0 := by omega
    by_cases hj : j > 0
    · rw [if_pos hj, if_pos (by omega), e32]
      simp only [sz]
      rw [if_pos (by simp; omega), if_pos (by simp; omega), ih _ (by simp only [sz]; simp; omega), if_pos hj1, if_pos hj]
      congr 1
      simp only [mk_app, dl_mk, tailA, toA_cons, hw]
      simp
    · rw [if_neg hj]
      simp only [sz]
      rw [if_pos (by simp only [mk_size]; omega), if_pos (by simp only [mk_size]; omega), ih _ (by simp only [sz]; omega), if_pos hj1, if_neg hj]
      congr 1
      simp only [mk_app, dl_mk, bodyA, toA_cons, hw]
      simp
theorem rWord_l0 (l : List (List S45)) (hl : l.length ≤ 1000000) (M : Nat) (hM : M ≤ 4611686018427387904) : ∀ (rest : List (List S45)) (k : Nat) (i : Int) (s : ByteArray), Lt l i rest → SzR 281474976710656 rest → (toR rest).all rightA = true → s.size + lenR rest ≤ M → 20 * rest.length + 30 ≤ k →
    hoggetref05_Word.l0 k s i l = some (s ++ mk (if i > 0 then tailD (toR rest) else joinD ((toR rest).map wordA)))
  | [], k, i, s, h, _, _, hm, hk => by
    obtain ⟨k, rfl, hk'⟩ := pred (show 0 < k by omega)
    simp only [hoggetref05_Word.l0]
    rw [if_neg h.not_lt]
    have : (if i > 0 then tailD (toR []) else joinD ((toR []).map wordA)) = [] := by split <;> rfl
    rw [this, mk_app, List.append_nil, mk_dl]
  | x :: rest, k, i, s, h, hs, ho, hm, hk => by
    obtain ⟨k, rfl, hk'⟩ := pred (show 0 < k by omega)
    have hr : rd_L4 l i = x := h.rd _
    have hg := h.ge
    rw [toR_cons, List.all_cons, Bool.and_eq_true, rightA_def, Bool.and_eq_true, toA_len] at ho
    have h8 := of_decide_eq_true ho.1.1
    have hmm : lenR (x :: rest) = 10 + lenA x + lenR rest := by simp [lenR]
    rw [hmm] at hm
    rw [List.length_cons] at hk
    have sz : ∀ (s : ByteArray) (l : List UInt8), (s ++ mk l).size = s.size + l.length := fun s l => by rw [ByteArray.size_append, mk_size]
    have hi1 : i + 1 > 0 := by omega
    have ih := fun k s' (hk : 20 * rest.length + 30 ≤ k) (hs' : s'.size + lenR rest ≤ M) => rWord_l0 l hl M hM rest k (i + 1) s' h.next (fun y hy => hs y (List.mem_cons_of_mem _ hy)) ho.2 hs' hk
    -- the alternative's own word
    have one : ∀ k s', 20 * rest.length + 45 ≤ k → s'.size + 1 + lenA x + lenR rest ≤ M → hoggetref05_Word.j1 k s' i l = some (s' ++ mk (wordA (toA x) ++ tailD (toR rest))) := fun k s' hk hs' => by
      obtain ⟨k, rfl, hk'⟩ := pred (show 0 < k by omega)
      have l1 := fun k s'' (hk : 20 * rest.length + 30 + x.length + 1 ≤ k) hs'' => rWord_l1 l hl (20 * rest.length + 30) (M - lenR rest) (by omega) (by omega) (fun s => some (s ++ mk (tailD (toR rest)))) i x rest h (by omega) (fun k s' hk hs' => by rw [ih k s' hk (by omega), if_pos hi1]) x k 0 s'' (Lt.zero x) (hs x List.mem_cons_self) ho.1.2 hs'' hk
      simp only [hoggetref05_Word.j1]
      rw [if_pos h.ge, if_pos h.lt, hr]
      obtain ⟨k, rfl, hk''⟩ := pred (show 0 < k by omega)
      simp only [hoggetref05_Word.j2]
      by_cases hx0 : (x.length : Int) = 0
      · have hxn : x = [] := List.eq_nil_of_length_eq_zero (by omega)
        subst hxn
        have e42 : (⟨#[42]⟩ : ByteArray) = mk [42] := rfl
        rw [if_pos hx0, if_pos (by omega), e42, l1 k _ (by simp; omega) (by rw [sz]; simp [lenA]; omega)]
        simp only [mk_app, dl_mk, wordA_body, toA, List.map_nil, if_true, bodyA]
        simp [bodyA]
      · have hxn : toA x ≠ [] := fun e => hx0 (by have := congrArg List.length e; rw [toA_len] at this; simp at this; simp [this])
        rw [if_neg hx0, l1 k _ (by omega) (by omega), wordA_body, if_neg hxn]
        simp only [mk_app, dl_mk]
        simp
    simp only [hoggetref05_Word.l0]
    rw [if_pos h.lt]
    have e4 : (⟨#[32, 124, 124, 32]⟩ : ByteArray) = mk [32, 124, 124, 32] := rfl
    by_cases hi : i > 0
    · rw [if_pos hi, if_pos (by omega), e4, one k _ (by omega) (by rw [sz]; simp; omega), if_pos hi]
      simp only [mk_app, dl_mk, toR_cons, tailD]
      simp
    · rw [if_neg hi, one k _ (by omega) (by omega), if_neg hi, toR_cons, joinD_tail]
theorem rWord_eq (k : Nat) (r : List (List S45)) (hs : SzR 281474976710656 r) (hm : lenR r ≤ 4611686018427387904) (hr : rightR (toR r) = true) (hk : 200 ≤ k) : hoggetref05_Word.f k r = some (mk (wordR (toR r))) := by
  have h := rightR_mem hr
  rw [toR_len] at h
  unfold hoggetref05_Word.f wordR
  rw [rWord_l0 r (by omega) 4611686018427387904 (by omega) r k 0 _ (Lt.zero r) hs (List.all_eq_true.2 h.2) (by have : (⟨#[]⟩ : ByteArray).size = 0 := rfl; omega) (by omega), if_neg (by omega)]
  rw [mk_app]; rfl
theorem rPrint05_eq (k : Nat) (r : List (List S45)) (S : Nat) (hS : S ≤ 2147483647) (hs : SzR S r) (hm : lenR r ≤ 4611686018427387904) (hk : 4 * S + 300 < k) : hoggetref05_Print.f k r = some (mk (printR (toR r)).1, (printR (toR r)).2) := by
  unfold hoggetref05_Print.f printR
  rw [rRight05_eq k r S hS hs hk]
  simp only [Option.bind_some]
  by_cases h : rightR (toR r) = true
  · rw [if_pos h, if_pos h, rWord_eq k r (fun l hl b hb => by have := hs l hl b hb; omega) hm h (by omega)]; rfl
  · rw [if_neg h, if_neg h]; rfl
end Go.Proofs.YtijooffpjfhidaaGreatDoor.Vp
end
section
namespace Go.Proofs.YtijooffpjfhidaaGreatDoor.Vp
open Go Go.RowKit Go.Proofs.YtijooffpjfhidaaGreatDoorW.PrintWords Go.Proofs.YtijooffpjfhidaaGreatDoor.Txt Go.Proofs.YtijooffpjfhidaaGreatDoor.Trim Go.Proofs.YtijooffpjfhidaaGreatDoor.Num Go.Proofs.YtijooffpjfhidaaGreatDoor.Seq Go.Proofs.YtijooffpjfhidaaGreatDoor.G
def ofV (v : Ver) : S35 := ⟨v.1, v.2.1, v.2.2.1, v.2.2.2⟩
def ofB (b : Bd) : S45 := ⟨b.1, ofV b.2⟩
def ofA (l : List Bd) : List S45 := l.map ofB
def ofR (r : Ran) : List (List S45) := r.map ofA
theorem toA_ofA : ∀ l, toA (ofA l) = l
  | [] => rfl
  | b :: l => by show toB (ofB b) :: toA (ofA l) = _; rw [toA_ofA l]; rfl
theorem toR_ofR : ∀ r, toR (ofR r) = r
  | [] => rfl
  | l :: r => by show toA (ofA l) :: toR (ofR r) = _; rw [toR_ofR r, toA_ofA l]
theorem ofA_app (a b : List Bd) : ofA (a ++ b) = ofA a ++ ofA b := List.map_append
theorem ofA_len (l : List Bd) : (ofA l).length = l.length := List.length_map _
theorem at_slice {s : ByteArray} {f i : Int} {c r : List UInt8} (hf : At s f (c ++ r)) (hi : f + c.length = i) : s.extract f.toNat i.toNat = mk c := by
  have h1 := hf.ge
  apply ext
  rw [extract_list, List.drop_take, show i.toNat - f.toNat = c.length by omega]
  rw [hf.eq, List.take_left]; rfl
theorem rsplit_loop (s : ByteArray) (hs : s.size ≤ 2147483647) : ∀ (r : List UInt8) (k : Nat) (acc : List ByteArray) (f i : Int) (c : List UInt8), At s f (c ++ r) → At s i r → f + c.length = i → acc.length + r.length ≤ 4000000000 → r.length < k →
    hoggetref05_split.l0 k s acc f i = some (acc ++ ((c ++ (cuts2 r).headD []) :: (cuts2 r).tail).map mk)
  | [], k, acc, f, i, c, hf, hi, hc, ha, hk => by
    obtain ⟨k, rfl, hk'⟩ := pred hk
    have h1 := hf.ge
    have h2 := hf.le
    have h3 := hi.nil
    have hw : wrap64 (i + 1) = i + 1 := wrapS (by omega) (by omega)
    have hx := at_slice hf (i := (s.size : Int)) (by omega)
    rw [Int.toNat_natCast] at hx
    simp only [hoggetref05_split.l0]
    rw [hw, if_neg (by omega), if_pos h1, if_pos h2, if_pos (by simp at ha; omega), hx]
    simp [cuts2]
  | [x], k, acc, f, i, c, hf, hi, hc, ha, hk => by
    obtain ⟨k, rfl, hk'⟩ := pred hk
    have h1 := hf.ge
    have h2 := hf.le
    have h3 := hi.next.nil
    have h4 := hi.ge
    have hw : wrap64 (i + 1) = i + 1 := wrapS (by omega) (by omega)
    have hx := at_slice (c := c ++ [x]) (r := []) (f := f) (i := (s.size : Int)) (s := s) (by rw [List.append_nil]; exact hf) (by rw [List.length_append, List.length_singleton]; omega)
    rw [Int.toNat_natCast] at hx
    simp only [hoggetref05_split.l0]
    rw [hw, if_neg (by omega), if_pos h1, if_pos h2, if_pos (by simp at ha; omega), hx]
    simp [cuts2]
  | x :: y :: r, k, acc, f, i, c, hf, hi, hc, ha, hk => by
    obtain ⟨k, rfl, hk'⟩ := pred hk
    simp only [List.length_cons] at ha hk'
    have h1 := hf.ge
    have h2 := hf.le
    have h4 := hi.ge
    have hn := hi.next
    have hl := hn.lt
    have hl1 := hi.lt
    have hw : wrap64 (i + 1) = i + 1 := wrapS (by omega) (by omega)
    have hw2 : wrap64 (i + 2) = i + 2 := wrapS (by omega) (by omega)
    have b1 := hi.byte
    have b2 := hn.byte
    have ih := rsplit_loop s hs (y :: r) k acc f (i + 1) (c ++ [x]) (by simpa using hf) hn (by rw [List.length_append, List.length_singleton]; omega) (by simp; omega) (by simp; omega)
    simp only [hoggetref05_split.l0]
    rw [hw, if_pos hl, if_pos h4, if_pos hl1, b1, hw2, if_pos (show 0 ≤ i + 1 by omega), b2]
    by_cases e1 : (x.toNat : Int) = 124
    · have x124 : x = 124 := u8_eq.2 e1
      rw [if_pos e1]
      by_cases e2 : (y.toNat : Int) = 124
      · have y124 : y = 124 := u8_eq.2 e2
        have hf2 : At s (i + 2) ([] ++ r) := by have := hn.next; rw [show i + 1 + 1 = i + 2 by omega] at this; exact this
        rw [if_pos e2, if_pos h1, if_pos (by omega), if_pos (by omega), if_pos (by omega), at_slice hf hc]
        rw [rsplit_loop s hs r k (acc ++ [mk c]) (i + 2) (i + 2) [] hf2 hf2 (by simp) (by rw [List.length_append, List.length_singleton]; omega) (by omega)]
        rw [cuts2_cons, if_pos ⟨x124, y124⟩]
        cases hq : cuts2 r with
        | nil => exact absurd hq (cuts2_ne r)
        | cons u t => simp
      · have y124 : ¬ (x = 124 ∧ y = 124) := fun e => e2 (by rw [e.2]; rfl)
        rw [if_neg e2, ih, cuts2_cons, if_neg y124]
        simp
    · have y124 : ¬ (x = 124 ∧ y = 124) := fun e => e1 (by rw [e.1]; rfl)
      rw [if_neg e1, ih, cuts2_cons, if_neg y124]
      simp
theorem rsplit_eq (k : Nat) (s : ByteArray) (hs : s.size ≤ 2147483647) (hk : s.size < k) : hoggetref05_split.f k s = some ((cuts2 (dl s)).map mk) := by
  have h0 := At0 s
  unfold hoggetref05_split.f
  rw [rsplit_loop s hs (dl s) k [] 0 0 [] h0 h0 (by simp) (by rw [dl_len]; simp; omega) (by rw [dl_len]; omega)]
  cases hq : cuts2 (dl s) with
  | nil => exact absurd hq (cuts2_ne _)
  | cons u t => simp
theorem rwords_loop (L : List ByteArray) (hL : L.length ≤ 4000000000) : ∀ (r : List ByteArray) (k : Nat) (acc : List ByteArray) (i : Int), Lt L i r → acc.length + r.length ≤ 4000000000 → r.length < k →
    hoggetref05_words.l0 k L acc i = some (acc ++ r.filter fun w => !(dl w).isEmpty)
  | [], k, acc, i, h, ha, hk => by
    obtain ⟨k, rfl, hk'⟩ := pred hk
    simp only [hoggetref05_words.l0]
    rw [if_neg h.not_lt]; simp
  | w :: r, k, acc, i, h, ha, hk => by
    obtain ⟨k, rfl, hk'⟩ := pred hk
    simp only [List.length_cons] at ha hk'
    have hw : rdOf ByteArray.empty L i = w := h.rd _
    simp only [hoggetref05_words.l0]
    rw [if_pos h.lt, if_pos h.ge, hw, h.wrap (by omega), toList_eq]
    by_cases he : w.data.toList = []
    · have : (!(dl w).isEmpty) = false := by show (!w.data.toList.isEmpty) = false; rw [he]; rfl
      rw [if_pos he, rwords_loop L hL r k acc (i + 1) h.next (by omega) (by omega), List.filter_cons, if_neg (by rw [this]; decide)]
    · have : (!(dl w).isEmpty) = true := by
        show (!w.data.toList.isEmpty) = true
        cases hd : w.data.toList with
        | nil => exact absurd hd he
        | cons => rfl
      rw [if_neg he, if_pos (by omega), rwords_loop L hL r k (acc ++ [w]) (i + 1) h.next (by rw [List.length_append, List.length_singleton]; omega) (by omega), List.filter_cons, if_pos this]
      simp
theorem rwords_eq (k : Nat) (s : ByteArray) (hs : s.size ≤ 2147483647) (hk : s.size + 2 < k) : hoggetref05_words.f k s = some ((words (dl s)).map mk) := by
  have hl := cuts_len 32 (dl s)
  rw [dl_len] at hl
  unfold hoggetref05_words.f
  have := rCut_eq 32 k s hs (by omega)
  have e : hoggetref04_Cut.f k s 32 = some ((cuts 32 (dl s)).map mk) := this
  rw [e]
  simp only [Option.bind_some]
  rw [rwords_loop _ (by rw [List.length_map]; omega) _ k [] 0 (Lt.zero _) (by rw [List.length_map]; simp; omega) (by rw [List.length_map]; omega), List.nil_append]
  unfold words
  congr 1
  rw [List.filter_map]
  rfl
def opI (l : List UInt8) : Int := if [60, 61].isPrefixOf l = true then 3 else if [62, 61].isPrefixOf l = true then 5 else if [60].isPrefixOf l = true then 2 else if [62].isPrefixOf l = true then 4 else if [61].isPrefixOf l = true then 1 else 0
theorem pre_take (u l : List UInt8) : u.isPrefixOf l = true ↔ u.length ≤ l.length ∧ l.take u.length = u := by
  rw [List.isPrefixOf_iff_prefix]
  constructor
  · rintro ⟨t, rfl⟩
    exact ⟨by simp, List.take_left⟩
  · rintro ⟨_, h⟩
    exact ⟨l.drop u.length, by conv => lhs; lhs; rw [← h]
                               exact List.take_append_drop _ _⟩
theorem rop_step (k : Nat) (s : ByteArray) (hs : s.size ≤ 2147483647) (L : List Int) (hL : L.length ≤ 100) (i x : Int) (r : List Int) (h : Lt L i (x :: r)) :
    hoggetref05_op.l0 (k + 1) s L i = if (sgn x).isPrefixOf (dl s) = true then some x else hoggetref05_op.l0 k s L (i + 1) := by
  have hr : rd L i = x := h.rd 0
  have hz := mk_size (sgn x)
  have hd := dl_len s
  simp only [hoggetref05_op.l0]
  rw [if_pos h.lt, if_pos h.ge, hr, h.wrap (by omega), rsign_eq]
  simp only [Option.bind_some]
  have hp := pre_take (sgn x) (dl s)
  by_cases h1 : (s.size : Int) ≥ ((mk (sgn x)).size : Int)
  · rw [if_pos h1, if_pos (by omega), if_pos (by omega), toList_eq, extract_list, mk_toList, Int.toNat_natCast, List.drop_zero, hz]
    change (if List.take (sgn x).length (dl s) = sgn x then _ else _) = _
    by_cases h2 : (dl s).take (sgn x).length = sgn x
    · rw [if_pos h2, if_pos (hp.2 ⟨by omega, h2⟩)]
    · rw [if_neg h2, if_neg (fun e => h2 (hp.1 e).2)]
  · rw [if_neg h1, if_neg (fun e => h1 (by have := (hp.1 e).1; omega))]
theorem rop_eq (k : Nat) (s : ByteArray) (hs : s.size ≤ 2147483647) (hk : 10 < k) : hoggetref05_op.f k s = some (opI (dl s)) := by
  unfold hoggetref05_op.f
  obtain ⟨k, rfl, _⟩ := pred hk
  obtain ⟨k, rfl, _⟩ := pred (show 8 < k by omega)
  obtain ⟨k, rfl, _⟩ := pred (show 7 < k by omega)
  obtain ⟨k, rfl, _⟩ := pred (show 6 < k by omega)
  obtain ⟨k, rfl, _⟩ := pred (show 5 < k by omega)
  obtain ⟨k, rfl, _⟩ := pred (show 4 < k by omega)
  have h0 : Lt ([3, 5, 2, 4, 1] : List Int) 0 [3, 5, 2, 4, 1] := Lt.zero _
  rw [rop_step _ s hs _ (by decide) _ _ _ h0, rop_step _ s hs _ (by decide) _ _ _ h0.next, rop_step _ s hs _ (by decide) _ _ _ h0.next.next, rop_step _ s hs _ (by decide) _ _ _ h0.next.next.next, rop_step _ s hs _ (by decide) _ _ _ h0.next.next.next.next]
  have h5 := h0.next.next.next.next.next
  simp only [hoggetref05_op.l0]
  rw [if_neg h5.not_lt]
  unfold opI
  have e3 : sgn 3 = [60, 61] := rfl
  have e5 : sgn 5 = [62, 61] := rfl
  have e2 : sgn 2 = [60] := rfl
  have e4 : sgn 4 = [62] := rfl
  have e1 : sgn 1 = [61] := rfl
  rw [e3, e5, e2, e4, e1]
  (repeat' split) <;> rfl
theorem opW_opI (l : List UInt8) : opW l = if opI l > 0 then (opI l, l.drop (sgn (opI l)).length) else (1, l) := by
  have p1 : ∀ (c : UInt8) (r : List UInt8) (a : UInt8), ([a] : List UInt8).isPrefixOf (c :: r) = decide (c = a) := fun c r a => by
    simp only [List.isPrefixOf, Bool.and_true]
    by_cases h : c = a
    · subst h; simp
    · rw [decide_eq_false h]; exact beq_eq_false_iff_ne.2 (fun e => h e.symm)
  have p2 : ∀ (c : UInt8) (r : List UInt8) (a b : UInt8), ([a, b] : List UInt8).isPrefixOf (c :: r) = (decide (c = a) && decide (r.head? = some b)) := fun c r a b => by
    have e1 : (a == c) = decide (c = a) := by
      by_cases h : c = a
      · subst h; simp
      · rw [decide_eq_false h]; exact beq_eq_false_iff_ne.2 (fun e => h e.symm)
    cases r with
    | nil => simp [List.isPrefixOf]
    | cons d r =>
      simp only [List.isPrefixOf, Bool.and_true, e1, List.head?_cons, Option.some.injEq]
      congr 1
      by_cases h : d = b
      · subst h; simp
      · rw [decide_eq_false h]; exact beq_eq_false_iff_ne.2 (fun e => h e.symm)
  cases l with
  | nil => rfl
  | cons c r =>
    unfold opI opW
    simp only [p1, p2]
    by_cases c60 : c = 60
    · subst c60
      by_cases hr : r.head? = some 61
      · simp [hr, sgn]
      · simp [hr, sgn]
    · by_cases c62 : c = 62
      · subst c62
        by_cases hr : r.head? = some 61
        · simp [hr, sgn]
        · simp [hr, sgn]
      · by_cases c61 : c = 61
        · subst c61; simp [sgn]
        · simp [c60, c62, c61]
theorem parse_sz (l : List UInt8) : (parseP l).1.2.2.2.size ≤ l.length := by
  cases h : parseP l with
  | mk v t =>
    cases t with
    | true =>
      have hr := parse_right h
      have hl := congrArg List.length hr.2
      have hd := dl_len v.2.2.2
      unfold told at hl
      show v.2.2.2.size ≤ _
      by_cases he : dl v.2.2.2 = []
      · rw [he] at hd; simp at hd; omega
      · rw [if_neg he] at hl; simp at hl; omega
    | false =>
      have := parse_none h
      subst this
      show zeroV.2.2.2.size ≤ _
      have : zeroV.2.2.2.size = 0 := by decide
      omega
theorem parse_rng (l : List UInt8) : (0 ≤ (parseP l).1.1 ∧ (parseP l).1.1 ≤ 999999) ∧ (0 ≤ (parseP l).1.2.1 ∧ (parseP l).1.2.1 ≤ 999999) ∧ (0 ≤ (parseP l).1.2.2.1 ∧ (parseP l).1.2.2.1 ≤ 999999) := by
  cases h : parseP l with
  | mk v t =>
    cases t with
    | true =>
      have hr := right_nums (parse_right h).1
      exact ⟨hr.1, hr.2.1, hr.2.2.1⟩
    | false =>
      have := parse_none h
      subst this
      decide
theorem rnext_eq (l : List UInt8) (t : Bool) : hoggetref05_next.f (parseP l).1.1 (parseP l).1.2.1 (parseP l).1.2.2.1 (parseP l).1.2.2.2 t = some ((nextV (parseP l).1 t).1, (nextV (parseP l).1 t).2.1, (nextV (parseP l).1 t).2.2.1, (nextV (parseP l).1 t).2.2.2) := by
  have h := parse_rng l
  unfold hoggetref05_next.f nextV
  rw [wrapS (by omega) (by omega), wrapS (by omega) (by omega), wrapS (by omega) (by omega)]
  cases t with
  | true => rfl
  | false =>
    simp only [Bool.false_eq_true, if_false]
    by_cases h1 : (parseP l).1.1 > 0
    · rw [if_pos h1, if_pos h1]; rfl
    · have e1 : (parseP l).1.1 = 0 := by omega
      rw [if_neg h1, if_neg h1]
      by_cases h2 : (parseP l).1.2.1 > 0
      · rw [if_pos h2, if_pos h2, e1]; rfl
      · have e2 : (parseP l).1.2.1 = 0 := by omega
        rw [if_neg h2, if_neg h2, e1, e2]; rfl
theorem next_pre (v : Ver) (t : Bool) : (nextV v t).2.2.2.size = 0 := by
  unfold nextV
  (repeat' split) <;> rfl
def twoP (r : List UInt8) (t : Bool) : List Bd × Bool := ([(5, (parseP r).1), (2, nextV (parseP r).1 t)], (parseP r).2 && rightB (nextV (parseP r).1 t))
theorem rtwo_eq (k : Nat) (s : ByteArray) (t : Bool) (hs : s.size ≤ 2147483647) (hk : 5 * s.size + 100 < k) : hoggetref05_two.f k s t = some (ofA (twoP (dl s) t).1, (twoP (dl s) t).2) := by
  unfold hoggetref05_two.f
  rw [rParse_eq k s hs hk]
  simp only [Option.bind_some, flat5]
  rw [rnext_eq]
  simp only [Option.bind_some]
  have hz := next_pre (parseP (dl s)).1 t
  rw [rRight_eq k _ _ _ _ (by omega) (by omega)]
  simp only [Option.bind_some, twoP]
  have e : rightB ((nextV (parseP (dl s)).1 t).1, (nextV (parseP (dl s)).1 t).2.1, (nextV (parseP (dl s)).1 t).2.2.1, (nextV (parseP (dl s)).1 t).2.2.2) = rightB (nextV (parseP (dl s)).1 t) := rfl
  rw [e]
  cases (parseP (dl s)).2 <;> simp [ofA, ofB, ofV]
def oneP : List UInt8 → List Bd × Bool
  | [] => ([], true)
  | c :: r => if c = 42 ∧ r = [] then ([], true) else if c = 94 ∨ c = 126 then twoP r (decide (c = 126)) else ([((opW (c :: r)).1, (parseP (opW (c :: r)).2).1)], (parseP (opW (c :: r)).2).2)
theorem opW_len (l : List UInt8) : (opW l).2.length ≤ l.length := by
  rw [opW_opI]
  split
  · rw [List.length_drop]; omega
  · exact Nat.le_refl _
theorem rone_eq (k : Nat) (c : UInt8) (r : List UInt8) (hs : r.length + 1 ≤ 2147483647) (hk : 5 * r.length + 200 < k) : hoggetref05_one.f k (mk (c :: r)) = some (ofA (oneP (c :: r)).1, (oneP (c :: r)).2) := by
  obtain ⟨s, hq⟩ : ∃ s, mk (c :: r) = s := ⟨_, rfl⟩
  have hd : dl s = c :: r := by rw [← hq]; rfl
  have hz : s.size = r.length + 1 := by rw [← hq, mk_size]; rfl
  have h0 := At0 s
  rw [hd] at h0
  have hb := h0.byte
  have hlt := h0.lt
  rw [hq]
  unfold hoggetref05_one.f
  rw [toList_eq]
  change (if dl s = [42] then _ else _) = _
  rw [hd]
  by_cases e42 : c :: r = [42]
  · rw [if_pos e42]
    obtain ⟨rfl, rfl⟩ := List.cons.inj e42
    rfl
  · have n42 : ¬ (c = 42 ∧ r = []) := fun e => e42 (by rw [e.1, e.2])
    rw [if_neg e42, if_pos (by omega), hb]
    obtain ⟨k, rfl, hk'⟩ := pred (show 0 < k by omega)
    simp only [hoggetref05_one.j0]
    have hx1 : s.extract 1 s.size = mk r := by rw [← hq, mk_extract, mk_size]; simp
    have h126 : ((c.toNat : Int) == 126) = decide (c = 126) := by
      by_cases h : c = 126
      · subst h; rfl
      · rw [decide_eq_false h]; exact beq_eq_false_iff_ne.2 (fun e => h (u8_eq.2 e))
    have htw := rtwo_eq k (mk r) (decide (c = 126)) (by rw [mk_size]; omega) (by rw [mk_size]; omega)
    rw [dl_mk] at htw
    have hone : oneP (c :: r) = if c = 94 ∨ c = 126 then twoP r (decide (c = 126)) else ([((opW (c :: r)).1, (parseP (opW (c :: r)).2).1)], (parseP (opW (c :: r)).2).2) := by simp only [oneP]; rw [if_neg n42]
    rw [hb, h126, hx1, htw, hone]
    by_cases c94 : (c.toNat : Int) = 94
    · have : c = 94 := u8_eq.2 c94
      rw [if_pos c94, if_pos trivial, if_pos (by omega), if_pos (by omega), if_pos (.inl this)]; rfl
    · have n94 : ¬ c = 94 := fun e => c94 (by rw [e]; rfl)
      rw [if_neg c94]
      by_cases c126 : c = 126
      · rw [decide_eq_true c126, if_pos rfl, if_pos (by omega), if_pos (by omega), if_pos (.inr c126)]; rfl
      · rw [decide_eq_false c126, if_neg (by decide), if_neg (fun e => e.elim n94 c126), rop_eq k s (by omega) (by omega), hd]
        simp only [Option.bind_some]
        rw [opW_opI]
        by_cases ho : opI (c :: r) > 0
        · rw [if_pos ho, if_pos ho, rsign_eq]
          have hle : (sgn (opI (c :: r))).length ≤ (c :: r).length := by
            have h1 : opI (c :: r) ≠ 0 := by omega
            have : (sgn (opI (c :: r))).isPrefixOf (c :: r) = true := by
              unfold opI at h1 ⊢
              split
              · assumption
              · split
                · assumption
                · split
                  · assumption
                  · split
                    · assumption
                    · split
                      · assumption
                      · rename_i a1 a2 a3 a4 a5
                        rw [if_neg a1, if_neg a2, if_neg a3, if_neg a4, if_neg a5] at h1
                        exact absurd rfl h1
            exact ((pre_take _ _).1 this).1
          rw [List.length_cons] at hle
          have hx2 : s.extract (sgn (opI (c :: r))).length s.size = mk ((c :: r).drop (sgn (opI (c :: r))).length) := by rw [← hq, mk_extract, mk_size, List.take_of_length_le (Nat.le_refl _)]
          simp only [Option.bind_some, mk_size, Int.toNat_natCast]
          rw [if_pos (by omega), if_pos (by omega), hx2, rParse_eq k _ (by rw [mk_size, List.length_drop]; simp; omega) (by rw [mk_size, List.length_drop]; simp; omega), dl_mk]
          simp [flat5, ofA, ofB, ofV]
        · rw [if_neg ho, if_neg ho, rParse_eq k _ (by omega) (by omega), hd]
          simp [flat5, ofA, ofB, ofV]
end Go.Proofs.YtijooffpjfhidaaGreatDoor.Vp
end
