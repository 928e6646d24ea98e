/- Texts of the claim, merged. -/
import Derived.Test.YtoefnmhmiphilaaGreatDoorM11
import Derived.Test.YtoefnmhmiphilaaGreatDoorM12
set_option linter.unusedVariables false
set_option linter.unusedSimpArgs false
namespace Go.Proofs.YtoefnmhmiphilaaGreatDoor.Tp
open Go Go.RowKit Go.Maps Go.Proofs.YtoefnmhmiphilaaGreatDoorW.PrintWords
def sxB : ByteArray := ⟨#[123, 34, 98, 34, 58, 49, 44, 32, 34, 97, 34, 58, 91, 110, 117, 108, 108, 93, 125]⟩
def sxO : List Nd := [⟨3, ⟨#[]⟩, 1, 0⟩, ⟨6, ⟨#[98]⟩, 0, 1⟩, ⟨1, ⟨#[]⟩, 0, 0⟩, ⟨5, ⟨#[]⟩, 0, 1⟩, ⟨6, ⟨#[97]⟩, 0, 1⟩, ⟨7, ⟨#[]⟩, 0, 2⟩]
def sxM : List Nd := [⟨1, ⟨#[]⟩, 0, 0⟩, ⟨6, ⟨#[97]⟩, 0, 1⟩]
def sxV : Nd := ⟨3, ⟨#[]⟩, 1, 0⟩
theorem sx1 : parsed sxB.data.toList = .ok sxO := by kernel_rfl
def sxT : Tr := .mk ⟨7, ⟨#[]⟩, 0, 2⟩ [.mk ⟨6, ⟨#[98]⟩, 0, 1⟩ [.mk sxV []], .mk ⟨6, ⟨#[97]⟩, 0, 1⟩ [.mk ⟨5, ⟨#[]⟩, 0, 1⟩ [.mk ⟨1, ⟨#[]⟩, 0, 0⟩ []]]]
theorem sx2 : apart sxO = .ok sxT := by kernel_rfl
theorem sx3 : tell (sortT sxT) = [123, 34, 97, 34, 58, 91, 110, 117, 108, 108, 93, 44, 34, 98, 34, 58, 49, 125] := by kernel_rfl
theorem sx4 : showOf sxO = ([123, 34, 97, 34, 58, 91, 110, 117, 108, 108, 93, 44, 34, 98, 34, 58, 49, 125], 0) := by rw [showOf_ok sx2 (by rw [sx3]; decide), sx3]
theorem sx5 : getOf sxO [98] = some (.mk sxV []) := by kernel_rfl
theorem sx6 : apart sxM = .error 20 := by kernel_rfl
theorem sx7 : apart [] = .error 20 := by kernel_rfl
theorem sx8 : sameOf sxO sxO = true := by unfold sameOf; rw [sx2]; simp
theorem sx9 : sameOf sxO [sxV] = false := by kernel_rfl
end Go.Proofs.YtoefnmhmiphilaaGreatDoor.Tp

namespace Go.Proofs.YtoefnmhmiphilaaGreatDoor.Tp
open Go Go.RowKit Go.Maps Go.Proofs.YtoefnmhmiphilaaGreatDoorW.PrintWords
theorem lst_of {W : World} {g : Nat} {o : List Nd} {n : Nat} (h : Row W g o) (hn : o.length = n) (hf : n ≤ 4294967296) (ht : ∀ x ∈ o, x.f1.size ≤ 1048576) : Lst W (some ⟨g, 0, none⟩) n o :=
  ⟨hn, .inr ⟨g, 0, rfl, fun i hi => by rw [Nat.zero_add]; exact h i hi⟩, hf, ht⟩
theorem sxO_txt : ∀ x ∈ sxO, x.f1.size ≤ 1048576 := by intro x hx; simp [sxO] at hx; rcases hx with rfl | rfl | rfl | rfl | rfl | rfl <;> decide
theorem lst_sxO {W : World} {g : Nat} (h : Row W g sxO) : Lst W (some ⟨g, 0, none⟩) 6 sxO := lst_of h rfl (by decide) sxO_txt
theorem lst_sxV {W : World} {base g c : Nat} (h : W.ownsRow base 32 4 (.slice (some ⟨g, 0, none⟩) 1 c) 1 (encs [sxV])) : Lst W (some ⟨g, 0, none⟩) 1 [sxV] :=
  lst_of (own_Row h rfl) rfl (by decide) (by intro x hx; simp at hx; subst hx; decide)
theorem lst_sxM (W : World) : Lst (W.alloc (.cells #[.int .i64 1, .string ⟨#[]⟩, .int .i64 0, .int .i64 0, .int .i64 6, .string ⟨#[97]⟩, .int .i64 0, .int .i64 1] 32)) (some ⟨W.heap.size, 0, none⟩) 2 sxM := by
  refine lst_of (fun i hi => ?_) rfl (by decide) (by intro x hx; simp [sxM] at hx; rcases hx with rfl | rfl <;> decide)
  refine (blk_cell (blk_new W _) i).trans ?_
  rw [← Array.getElem?_toList]; rfl
theorem show_ex (W : World) (g c : Nat) (h : Lst W (some ⟨g, 0, none⟩) 6 sxO) (hP : PowD W) : Calls Tryz.prog 18 #[.slice (some ⟨g, 0, none⟩) 6 c] W fun e W' => e = .returned (.tuple #[.string ⟨#[123, 34, 97, 34, 58, 91, 110, 117, 108, 108, 93, 44, 34, 98, 34, 58, 49, 125]⟩, .int .i64 0]) ∧ Below W.heap.size W W' := by
  have := pshow_calls W _ 6 c sxO h hP (fun t ht => by rw [sx2] at ht; cases ht; rw [sx3]; decide)
  rw [sx4] at this; exact this
theorem get_ex (W : World) (g c : Nat) (h : Lst W (some ⟨g, 0, none⟩) 6 sxO) : Calls Tryz.prog 20 #[.slice (some ⟨g, 0, none⟩) 6 c, .string ⟨#[98]⟩] W fun e W' => ∃ g5 c5, e = .returned (.tuple #[.slice (some ⟨g5, 0, none⟩) 1 c5, .bool true]) ∧ W'.ownsRow W.heap.size 32 4 (.slice (some ⟨g5, 0, none⟩) 1 c5) 1 (encs [sxV]) ∧ Below W.heap.size W W' := by
  refine (pget_calls W _ 6 c sxO h ⟨#[98]⟩).mono ?_
  intro e W' hG
  unfold GRes at hG
  rw [show getOf sxO (⟨#[98]⟩ : ByteArray).data.toList = some (.mk sxV []) from sx5] at hG
  obtain ⟨hb, A', c', he, ho⟩ := hG
  rw [show (flat (.mk sxV [])).length = 0 + 1 from rfl] at he ho
  obtain ⟨g5, cap, hv⟩ := own_form ho
  injection hv with a1 a2 a3
  subst a1; subst a3
  exact ⟨g5, c', he, ho, hb⟩
theorem check_ex1 (W : World) (A : Option Addr) (c : Nat) (h : Lst W A 2 sxM) : Calls Tryz.prog 15 #[.slice A 2 c] W fun e W' => e = .returned (.int .i64 20) ∧ Below W.heap.size W W' := by
  have := pcheck_calls W A 2 c sxM h
  rw [sx6] at this; exact this
theorem check_ex2 (W : World) : Calls Tryz.prog 15 #[.slice none 0 0] W fun e W' => e = .returned (.int .i64 20) ∧ Below W.heap.size W W' := by
  have := pcheck_calls W none 0 0 [] ⟨rfl, .inl rfl, by decide, by simp⟩
  rw [sx7] at this; exact this
theorem same_ex1 (W : World) (g c : Nat) (h : Lst W (some ⟨g, 0, none⟩) 6 sxO) : Calls Tryz.prog 22 #[.slice (some ⟨g, 0, none⟩) 6 c, .slice (some ⟨g, 0, none⟩) 6 c] W fun e W' => e = .returned (.bool true) ∧ Below W.heap.size W W' := by
  have := psame_calls W _ _ 6 6 c c sxO sxO h h
  rw [sx8] at this; exact this
theorem same_ex2 (W : World) (g c g5 c5 : Nat) (h : Lst W (some ⟨g, 0, none⟩) 6 sxO) (h2 : Lst W (some ⟨g5, 0, none⟩) 1 [sxV]) : Calls Tryz.prog 22 #[.slice (some ⟨g, 0, none⟩) 6 c, .slice (some ⟨g5, 0, none⟩) 1 c5] W fun e W' => e = .returned (.bool false) ∧ Below W.heap.size W W' := by
  have := psame_calls W _ _ 6 1 c c5 sxO [sxV] h h2
  rw [sx9] at this; exact this
set_option maxHeartbeats 8000000 in
set_option maxRecDepth 100000 in
theorem shows_calls (W : World) (hP : PowD W) : Calls Tryz.prog 17 #[] W fun e W' => e = .returned (.bool true) ∧ Below W.heap.size W W' := by
  have kc := fun (w : World) (C : Array Value) (n c : Nat) => Lib.run_convert_bytes_const (P := Tryz.prog) w 43 5 C n c Tryz.underlying43 Tryz.underlying5
  obtain ⟨W1, hW1⟩ : ∃ W1, W.alloc (.cells #[.int .u8 123, .int .u8 34, .int .u8 98, .int .u8 34, .int .u8 58, .int .u8 49, .int .u8 44, .int .u8 32, .int .u8 34, .int .u8 97, .int .u8 34, .int .u8 58, .int .u8 91, .int .u8 110, .int .u8 117, .int .u8 108, .int .u8 108, .int .u8 93, .int .u8 125] 5 (19, 20)) = W1 := ⟨_, rfl⟩
  have k1 := kc W #[.int .u8 123, .int .u8 34, .int .u8 98, .int .u8 34, .int .u8 58, .int .u8 49, .int .u8 44, .int .u8 32, .int .u8 34, .int .u8 97, .int .u8 34, .int .u8 58, .int .u8 91, .int .u8 110, .int .u8 117, .int .u8 108, .int .u8 108, .int .u8 93, .int .u8 125] 19 19
  rw [show (#[Value.int .u8 123, .int .u8 34, .int .u8 98, .int .u8 34, .int .u8 58, .int .u8 49, .int .u8 44, .int .u8 32, .int .u8 34, .int .u8 97, .int .u8 34, .int .u8 58, .int .u8 91, .int .u8 110, .int .u8 117, .int .u8 108, .int .u8 108, .int .u8 93, .int .u8 125]).size = 19 from rfl, hW1] at k1
  have hs1 : W1.heap.size = W.heap.size + 1 := by rw [← hW1]; simp
  have hbl : Lib.Bytes W1 W.heap.size 0 sxB := by
    intro i hi
    rw [← hW1, Nat.zero_add]
    refine (Lib.cell_of_heap (new_at W _) i).trans ?_
    have : i < 19 := hi
    rcases i with _|_|_|_|_|_|_|_|_|_|_|_|_|_|_|_|_|_|_|i <;> first | rfl | omega
  have C1 := Lib.hid (parse_at W1 W.heap.size 19 sxB hbl (by omega) (by decide))
  have E1 : Hid (Below W.heap.size W W1) := Lib.hid (by rw [← hW1]; exact (Below.refl _ W).alloc (Nat.le_refl _) _)
  have HS1 := Lib.hid hs1
  have HPW := Lib.hid hP
  clear kc hW1 hs1 hbl hP
  go_enter Tryz.func17, Tryz.ntmps17
  go_wp2_with (first | (go_at_call 24; refine C1.out.mono ?_; intro e1 W2 hR; obtain ⟨g2, cap2, rfl, ho, hg, hb1, hbg⟩ := hR.okn sx1 (n := 5) rfl; have R2 := Lib.hid ho; have G2 := Lib.hid hg; have E2 := Lib.hid (E1.out.trans (hb1.mono (by have := HS1.out; omega))); have bF := (Below.refl _ W2).alloc (Nat.le_refl _) (.cells #[.int .i64 0, .int .i64 0] 40); have E3 := Lib.hid (E2.out.trans (bF.mono E2.out.size)); have L3 := Lib.hid (lst_sxO (ho.below bF hg)); have F3 := Lib.hid (blk_new W2 (.cells #[.int .i64 0, .int .i64 0] 40)); clear hR ho hb1 hg hbg bF) | (go_at_call 18; (with_reducible refine (show_ex _ _ _ L3.out (HPW.out.below E3.out HPW.out.lt)).mono ?_); rintro e1 W4 ⟨rfl, hb⟩; have L4 := Lib.hid (L3.out.below hb (Nat.le_refl _)); have F4 := Lib.hid (blk_below F3.out hb); have E4 := Lib.hid (E3.out.trans (hb.mono E3.out.size)); clear hb) | (go_at_call 20; (with_reducible refine (get_ex _ _ _ L4.out).mono ?_); rintro e1 W5 ⟨g5, c5, rfl, ho, hb⟩; have bM := (Below.refl _ W5).alloc (Nat.le_refl _) (.cells #[.int .i64 1, .string ⟨#[]⟩, .int .i64 0, .int .i64 0, .int .i64 6, .string ⟨#[97]⟩, .int .i64 0, .int .i64 1] 32); have E6 := Lib.hid ((E4.out.trans (hb.mono E4.out.size)).trans (bM.mono (by have := E4.out.size; have := hb.size; omega))); have L6 := Lib.hid ((L4.out.below hb (Nat.le_refl _)).below bM (Nat.le_refl _)); have F6 := Lib.hid (blk_below (blk_below F4.out hb) bM); have V6 := Lib.hid (lst_sxV (own_bel ho bM (Nat.le_refl _))); have hrow := own_Row (own_bel ho bM (Nat.le_refl _)) rfl; have v2 : (W5.alloc (.cells #[.int .i64 1, .string ⟨#[]⟩, .int .i64 0, .int .i64 0, .int .i64 6, .string ⟨#[97]⟩, .int .i64 0, .int .i64 1] 32)).cell? ⟨g5, 2, none⟩ = some (.int .i64 1) := hrow 2 (by decide); have M6 := Lib.hid (lst_sxM W5); have f0 := (blk_cell F6.out 0).trans rfl; clear ho hb bM hrow) | (go_at_call 15; first | ((with_reducible refine (check_ex1 _ _ _ M6.out).mono ?_); rintro e1 W7 ⟨rfl, hb⟩; have L7 := Lib.hid (L6.out.below hb (Nat.le_refl _)); have V7 := Lib.hid (V6.out.below hb (Nat.le_refl _)); have E7 := Lib.hid (E6.out.trans (hb.mono E6.out.size)); clear hb) | ((with_reducible refine (check_ex2 _).mono ?_); rintro e1 W8 ⟨rfl, hb⟩; have L8 := Lib.hid (L7.out.below hb (Nat.le_refl _)); have V8 := Lib.hid (V7.out.below hb (Nat.le_refl _)); have E8 := Lib.hid (E7.out.trans (hb.mono E7.out.size)); clear hb)) | (go_at_call 22; first | ((with_reducible refine (same_ex1 _ _ _ L8.out).mono ?_); rintro e1 W9 ⟨rfl, hb⟩; have L9 := Lib.hid (L8.out.below hb (Nat.le_refl _)); have V9 := Lib.hid (V8.out.below hb (Nat.le_refl _)); have E9 := Lib.hid (E8.out.trans (hb.mono E8.out.size)); clear hb L8) | ((with_reducible refine (same_ex2 _ _ _ _ _ L9.out V9.out).mono ?_); rintro e1 W10 ⟨rfl, hb⟩; have E10 := Lib.hid (E9.out.trans (hb.mono E9.out.size)); clear hb)))
  go_ret
  exact ⟨rfl, E10.out⟩
end Go.Proofs.YtoefnmhmiphilaaGreatDoor.Tp

namespace Go.Proofs.YtoefnmhmiphilaaGreatDoor.Tp
open Go Go.RowKit Go.Maps Go.Proofs.YtoefnmhmiphilaaGreatDoorW.PrintWords
set_option maxHeartbeats 4000000 in
set_option maxRecDepth 100000 in
theorem big_yes (W : World) (A : Option Addr) (n cap : Nat) (h2 : 200 < n) : Calls Tryz.prog 10 #[.slice A n cap] W fun e W' => e = .returned (.bool true) ∧ W' = W := by
  have d1 : decide (200 < n) = true := by simp; omega
  have d2 : decide ((200 : Int) < (n : Int)) = true := by simp; omega
  clear h2
  go_enter Tryz.func10, Tryz.ntmps10
  go_wp2_with fail
  go_ret
  exact ⟨rfl, rfl⟩
theorem lst_small {W : World} {A : Option Addr} {n : Nat} {o : List Nd} (hn : o.length = n) (hv : Nv W A o) (h : bigOf o = false) : Lst W A n o ∧ n ≤ 200 ∧ ∀ x ∈ o, x.f1.size ≤ 300 := by
  unfold bigOf at h
  simp only [Bool.or_eq_false_iff, decide_eq_false_iff_not, Nat.not_lt] at h
  have hx : ∀ x ∈ o, x.f1.size ≤ 300 := fun x hx => by
    have := h.2
    rw [List.any_eq_false] at this
    have := this x hx
    simpa using this
  exact ⟨⟨hn, hv, by omega, fun x h => Nat.le_trans (hx x h) (by decide)⟩, by omega, hx⟩
theorem small_bound {o : List Nd} (h : o.length ≤ 200) (hx : ∀ x ∈ o, x.f1.size ≤ 300) : ∀ t, apart o = .ok t → (tell (sortT t)).length ≤ 1000000 := by
  intro t ht
  have := show_bound (K := 300) ht hx
  have h2 : o.length * (2 * 300 + 32) ≤ 200 * (2 * 300 + 32) := Nat.mul_le_mul_right _ h
  omega
set_option maxHeartbeats 4000000 in
set_option maxRecDepth 100000 in
theorem big_few (W : World) (A : Option Addr) (n cap : Nat) (o : List Nd) (hlen : o.length = n) (hv : Nv W A o) (h2 : ¬ 200 < n) :
    Calls Tryz.prog 10 #[.slice A n cap] W fun e W' => e = .returned (.bool (bigOf o)) ∧ W' = W := by
  have e1 : decide (200 < n) = false := by simp; omega
  have e2 : decide ((200 : Int) < (n : Int)) = false := by simp; omega
  have HB := Lib.hid (show bigOf o = o.any (fun x => decide (300 < x.f1.size)) by unfold bigOf; rw [hlen, e1]; rfl)
  have HV := Lib.hid hv
  have HLEN := Lib.hid hlen
  clear hv hlen
  go_enter Tryz.func10, Tryz.ntmps10
  go_wp2_with fail
  go_loopg [3] n (fun k v3 W' => ∃ q : Nat, v3 = .int .i64 (q : Int) ∧ Hid (k = n - q) ∧ Hid (q ≤ n) ∧ Hid ((o.take q).any (fun x => decide (300 < x.f1.size)) = false) ∧ Hid (W' = W))
  case atStart => exact ⟨0, rfl, Lib.hid rfl, Lib.hid (Nat.zero_le _), Lib.hid rfl, Lib.hid rfl⟩
  case round =>
    obtain ⟨q, rfl, HK, HQ, HT, HW⟩ := hrel
    have hw := HW.out
    subst hw
    by_cases hlt : q < n
    · have f1 : decide ((q : Int) < (n : Int)) = true := by simp; omega
      have l1 : q < o.length := by rw [HLEN.out]; exact hlt
      obtain ⟨b, off, hA, hns⟩ := HV.out.some (by omega)
      subst hA
      obtain ⟨x0, x1, x2, x3⟩ := hns.at_ q l1
      obtain ⟨x, hx⟩ : ∃ x, o[q]'l1 = x := ⟨_, rfl⟩
      rw [hx] at x0 x1 x2 x3
      have HX := Lib.hid hx
      clear hx hns
      by_cases h3 : 300 < x.f1.size
      · have g1 : decide (300 < x.f1.size) = true := by simp; omega
        have g2 : decide ((300 : Int) < (x.f1.size : Int)) = true := by simp; omega
        have HR := Lib.hid (show bigOf o = true by rw [HB.out, List.any_eq_true]; exact ⟨x, by rw [← HX.out]; exact List.getElem_mem _, g1⟩)
        clear h3
        go_wp2_with fail
        go_ret
        exact ⟨by rw [HR.out]; rfl, rfl⟩
      · have g1 : decide (300 < x.f1.size) = false := by simp; omega
        have g2 : decide ((300 : Int) < (x.f1.size : Int)) = false := by simp; omega
        clear h3
        have hw : wrap64 ((q : Int) + 1) = ((q + 1 : Nat) : Int) := by unfold wrap64; omega
        go_wp2_with fail
        go_roundg (n - (q + 1))
        case rel => exact ⟨q + 1, by first | rfl | rw [hw], Lib.hid rfl, Lib.hid hlt, Lib.hid (by rw [List.take_succ_eq_append_getElem l1, List.any_append, HT.out, HX.out]; simp [g1]), Lib.hid rfl⟩
        case measure => have := HK.out; omega
    · have f1 : decide ((q : Int) < (n : Int)) = false := by simp; omega
      have HR := Lib.hid (show bigOf o = false by have := HT.out; rw [List.take_of_length_le (by rw [HLEN.out]; omega)] at this; rw [HB.out, this])
      go_wp2_with fail
      go_ret
      exact ⟨by rw [HR.out]; rfl, rfl⟩
theorem big_any (W : World) (A : Option Addr) (n cap : Nat) (o : List Nd) (hlen : o.length = n) (hv : Nv W A o) :
    Calls Tryz.prog 10 #[.slice A n cap] W fun e W' => e = .returned (.bool (bigOf o)) ∧ W' = W := by
  by_cases h2 : 200 < n
  · rw [show bigOf o = true by unfold bigOf; rw [hlen, decide_eq_true h2]; rfl]
    exact big_yes W A n cap h2
  · exact big_few W A n cap o hlen hv h2
set_option maxHeartbeats 4000000 in
set_option maxRecDepth 100000 in
theorem shownTexts_calls (W : World) (A : Option Addr) (n cap : Nat) (o : List Nd) (hn : o.length = n) (hcap : n ≤ cap) (hv : Nv W A o) (hz : A = none → cap = 0) (hP : PowD W) :
    Calls Tryz.prog 4 #[.slice A n cap] W fun e W' => e = .returned (.bool true) ∧ Below W.heap.size W W' := by
  have CB := Lib.hid (big_any W A n cap o hn hv)
  cases hb : bigOf o with
  | true =>
    rw [hb] at CB
    clear hn hcap hv hz hP hb
    go_enter Tryz.func4, Tryz.ntmps4
    go_wp2_with (first | (go_at_call 10; (with_reducible refine CB.out.mono ?_); rintro e1 W1 ⟨rfl, hw⟩; have hw2 := hw.symm; clear hw; subst hw2))
    go_ret
    exact ⟨rfl, Below.refl _ _⟩
  | false =>
    rw [hb] at CB
    obtain ⟨hL, h200, h300⟩ := lst_small hn hv hb
    have hbd := small_bound (by rw [hn]; exact h200) h300
    have CS := Lib.hid (pshow_calls W A n cap o hL hP (fun t ht => Nat.le_trans (hbd t ht) (by decide)))
    have CR := Lib.hid (fun V (h : Below W.heap.size W V) => rshow_calls V A n cap o (hL.below h (Nat.le_refl _)) (fun t ht => Nat.le_trans (hbd t ht) (by decide)))
    have HPW := Lib.hid hP
    obtain ⟨S, hS⟩ : ∃ S, showOf o = S := ⟨_, rfl⟩
    rw [hS] at CS CR
    obtain ⟨S1, S2⟩ := S
    obtain ⟨B, hB⟩ : ∃ B, mkB S1 = B := ⟨_, rfl⟩
    simp only [hB] at CS CR
    clear hn hcap hv hz hP hb hL h200 h300 hbd hS hB
    go_enter Tryz.func4, Tryz.ntmps4
    go_wp2_with (first | (go_at_call 10; (with_reducible refine CB.out.mono ?_); rintro e1 W1 ⟨rfl, hw⟩; have hw2 := hw.symm; clear hw; subst hw2) | (go_at_call 18; (with_reducible refine CS.out.mono ?_); rintro e1 W1 ⟨rfl, hb⟩; have B1 := Lib.hid hb; clear hb) | (go_at_call 19; (with_reducible refine (CR.out _ B1.out).mono ?_); rintro e1 W2 ⟨rfl, hb⟩; have B2 := Lib.hid (B1.out.trans (hb.mono B1.out.size)); clear hb) | (go_at_call 17; (with_reducible refine (shows_calls _ (HPW.out.below B2.out HPW.out.lt)).mono ?_); rintro e1 W3 ⟨rfl, hb⟩; have B3 := Lib.hid (B2.out.trans (hb.mono B2.out.size)); clear hb))
    go_ret
    exact ⟨rfl, B3.out⟩
end Go.Proofs.YtoefnmhmiphilaaGreatDoor.Tp

namespace Go.Proofs.YtoefnmhmiphilaaGreatDoor.Tp
open Go Go.RowKit Go.Maps Go.Proofs.YtoefnmhmiphilaaGreatDoorW.PrintWords
theorem parsed_tell {t : Tr} (ho : okT t = true) (h6 : t.nd.f0 ≠ 6) (hd : deep t ≤ 20) (hl : ¬ 20000 < (tell t).length) (hf : (flat t).length ≤ 2000) : parsed (tell t) = .ok (flat t) := by
  have h := (tell_value t ho).1 h6 20 hd [] (by simp [Follow])
  rw [List.append_nil] at h
  unfold parsed
  rw [if_neg hl, h]
  show (if (flat t).length ≤ 2000 then Except.ok (flat t) else .error (2, 0)) = _
  rw [if_pos hf]
theorem parsed_right {s : List UInt8} {o : List Nd} (h : parsed s = .ok o) : ∃ t, apart o = .ok t := by
  unfold parsed at h
  split at h
  · cases h
  · split at h
    · cases h
    · rename_i o' r hv
      split at h
      · split at h
        · rename_i hl
          cases h
          obtain ⟨t, h1, _⟩ := parse_tree hv hl
          exact ⟨t, h1⟩
        · cases h
      · cases h
theorem back_facts {o : List Nd} {t : Tr} (h : apart o = .ok t) (hb : ¬ 20000 < (tell (sortT t)).length) :
    parsed (tell (sortT t)) = .ok (flat (sortT t)) ∧ showOf (flat (sortT t)) = (tell (sortT t), 0) := by
  obtain ⟨h1, h2, h3, h4, h5⟩ := apart_ok.1 h
  obtain ⟨s1, s2, s3, s4⟩ := sort_facts t h3
  refine ⟨parsed_tell s1 (by rw [nd_sortT]; exact h4) (by rw [s2]; exact h5) hb (by rw [s3, h2]; exact h1), ?_⟩
  rw [showOf_ok (apart_sort h) (by rw [s4]; exact hb), s4]
end Go.Proofs.YtoefnmhmiphilaaGreatDoor.Tp

namespace Go.Proofs.YtoefnmhmiphilaaGreatDoor.Tp
open Go Go.RowKit Go.Maps Go.Proofs.YtoefnmhmiphilaaGreatDoorW.PrintWords
theorem showOf_left {o : List Nd} (h : (showOf o).2 ≠ 0) : (showOf o).1 = [] := by
  unfold showOf at h ⊢
  split
  · rfl
  · rename_i t ht
    split
    · rfl
    · rename_i hb
      rw [ht] at h
      simp only [if_neg hb] at h
      exact absurd rfl h
theorem showOf_zero {o : List Nd} (h : (showOf o).2 = 0) : ∃ t, apart o = .ok t ∧ ¬ 20000 < (tell (sortT t)).length := by
  cases ha : apart o with
  | error x =>
    rw [showOf_err ha] at h
    have := apart_code ha
    simp only at h
    subst h; cases this
  | ok t =>
    by_cases hb : 20000 < (tell (sortT t)).length
    · rw [showOf_big ha hb] at h; cases h
    · exact ⟨t, rfl, hb⟩
theorem PRes.lst {s : ByteArray} {W W' : World} {r : Ending} {o : List Nd} {n : Nat} (hx : parsed s.data.toList = .ok o) (hn : o.length = n) (h : PRes s W r W') : ∃ a cap, r = .returned (.tuple #[.slice a n cap, .agg #[.int .i64 0, .int .i64 0]]) ∧ Nv W' a o ∧ Below W.heap.size W W' := by
  obtain ⟨a, cap, h1, h2, h3⟩ := h.ok hx
  rw [hn] at h1 h2
  obtain ⟨A, c, hv, hnv, _⟩ := own_view h2 hn
  injection hv with a1 a2 a3
  subst a1
  exact ⟨a, cap, h1, hnv, h3⟩
set_option maxHeartbeats 8000000 in
set_option maxRecDepth 100000 in
theorem shownBack_calls (W : World) (A : Option Addr) (n cap : Nat) (o : List Nd) (hn : o.length = n) (hcap : n ≤ cap) (hv : Nv W A o) (hz : A = none → cap = 0) (hP : PowD W) :
    Calls Tryz.prog 6 #[.slice A n cap] W fun e W' => e = .returned (.bool true) ∧ Below W.heap.size W W' := by
  have CB := Lib.hid (big_any W A n cap o hn hv)
  cases hb : bigOf o with
  | true =>
    rw [hb] at CB
    clear hn hcap hv hz hP hb
    go_enter Tryz.func6, Tryz.ntmps6
    go_wp2_with (first | (go_at_call 10; (with_reducible refine CB.out.mono ?_); rintro e1 W1 ⟨rfl, hw⟩; have hw2 := hw.symm; clear hw; subst hw2))
    go_ret
    exact ⟨rfl, Below.refl _ _⟩
  | false =>
    rw [hb] at CB
    obtain ⟨hL, h200, h300⟩ := lst_small hn hv hb
    have hbd := small_bound (by rw [hn]; exact h200) h300
    have CS := Lib.hid (pshow_calls W A n cap o hL hP (fun t ht => Nat.le_trans (hbd t ht) (by decide)))
    have HPW := Lib.hid hP
    by_cases h0 : (showOf o).2 = 0
    · obtain ⟨t, ha, hbig⟩ := showOf_zero h0
      obtain ⟨hpt, hst⟩ := back_facts ha hbig
      rw [showOf_ok ha hbig] at CS
      have CT := Lib.hid (fun V (h : Below W.heap.size W V) => psort_ok V A n cap o (hL.below h (Nat.le_refl _)) ha)
      obtain ⟨_, ha2, ha3, _, _⟩ := apart_ok.1 ha
      have hsl : (flat (sortT t)).length = n := by rw [flat_sort_len, ha2, hn]
      have htx := sort_txt ha2 hL.txt
      have hsx : ∀ x ∈ flat (sortT t), x.f1.size ≤ 300 := fun x hx => h300 x (by rw [← ha2]; exact sort_mem t x hx)
      have hbd2 := small_bound (o := flat (sortT t)) (by rw [hsl]; exact h200) hsx
      obtain ⟨X, hX⟩ : ∃ X, mkB (tell (sortT t)) = X := ⟨_, rfl⟩
      have hXp : parsed X.data.toList = .ok (flat (sortT t)) := by rw [← hX]; exact hpt
      have hXs : X.size ≤ 4611686018427387904 := by
        have h1 : X.size = (tell (sortT t)).length := by rw [← hX]; rfl
        omega
      have CS2 : ∀ (V : World) (A2 : Option Addr) (c2 : Nat), Nv V A2 (flat (sortT t)) → PowD V → Calls Tryz.prog 18 #[.slice A2 n c2] V fun e W' => e = .returned (.tuple #[.string X, .int .i64 0]) ∧ Below V.heap.size V W' := fun V A2 c2 hv2 hp2 => by
        have := pshow_calls V A2 n c2 (flat (sortT t)) ⟨hsl, hv2, by omega, htx⟩ hp2 (fun u hu => Nat.le_trans (hbd2 u hu) (by decide))
        rw [hst, hX] at this; exact this
      have CE : ∀ (V : World) (A1 A2 : Option Addr) (c1 c2 : Nat), Nv V A1 (flat (sortT t)) → Nv V A2 (flat (sortT t)) → Calls Tryz.prog 14 #[.slice A1 n c1, .slice A2 n c2] V fun e W' => e = .returned (.bool true) ∧ ∃ k, W' = V.drewN k := fun V A1 A2 c1 c2 h1 h2 => by
        have := rsame_calls V A1 A2 (flat (sortT t)) (flat (sortT t)) n n c1 c2 hsl hsl h1 h2 (by omega)
        rw [decide_eq_true rfl] at this; exact this
      have HCS2 := Lib.hid CS2
      have HCE := Lib.hid CE
      simp only [hX] at CS
      have HXP := Lib.hid hXp
      have HSL := Lib.hid hsl
      have HXS := Lib.hid hXs
      have kb := fun W => conv_bytes W X
      clear hn hcap hv hz hP hb hL h200 h300 hbd h0 ha hbig hpt hst ha2 ha3 hsl htx hsx hbd2 hX hXp hXs CS2 CE
      go_enter Tryz.func6, Tryz.ntmps6
      go_wp2_with (first | (go_at_call 10; (with_reducible refine CB.out.mono ?_); rintro e1 W1 ⟨rfl, hw⟩; have hw2 := hw.symm; clear hw; subst hw2) | (go_at_call 18; first | ((with_reducible refine CS.out.mono ?_); rintro e1 W1 ⟨rfl, hb⟩; have B1 := Lib.hid hb; clear hb CS) | ((with_reducible refine (HCS2.out _ _ _ N4.out (HPW.out.below B4.out HPW.out.lt)).mono ?_); rintro e1 W5 ⟨rfl, hb⟩; have B5 := Lib.hid (B4.out.trans (hb.mono B4.out.size)); have N5 := Lib.hid (N4.out.below hb (Nat.le_refl _)); have S5 := Lib.hid (S4.out.below hb (Nat.le_refl _)); have F5 := Lib.hid (blk_below F4.out hb); clear hb)) | (go_at_call 12; (with_reducible refine (CT.out _ B1.out).mono ?_); rintro e1 W2 ⟨g2, c2, rfl, ho, hb⟩; have S2 := Lib.hid (own_Nv ho HSL.out); have B2 := Lib.hid (B1.out.trans (hb.mono B1.out.size)); clear ho hb) | (go_at_call 24; refine (parse_str _ X _ HXS.out).mono ?_; intro e1 W3 hR; obtain ⟨a3, cap3, rfl, hnv, hb1⟩ := hR.lst HXP.out HSL.out; have hb2 := (bytes_below W2 X).trans (hb1.mono (by rw [Lib.bytesWorld_size]; omega)); have bF := (Below.refl _ W3).alloc (Nat.le_refl _) (.cells #[.int .i64 0, .int .i64 0] 40); have N4 := Lib.hid (hnv.below bF (Nat.le_refl _)); have S4 := Lib.hid ((S2.out.below hb2 (Nat.le_refl _)).below bF (Nat.le_refl _)); have F4 := Lib.hid (blk_new W3 (.cells #[.int .i64 0, .int .i64 0] 40)); have B3 := B2.out.trans (hb2.mono B2.out.size); have B4 := Lib.hid (B3.trans (bF.mono B3.size)); clear hR hnv hb1 hb2 bF B3) | (go_at_call 17; (with_reducible refine (shows_calls _ (HPW.out.below B5.out HPW.out.lt)).mono ?_); rintro e1 W6 ⟨rfl, hb⟩; have B6 := Lib.hid (B5.out.trans (hb.mono B5.out.size)); have N6 := Lib.hid (N5.out.below hb (Nat.le_refl _)); have S6 := Lib.hid (S5.out.below hb (Nat.le_refl _)); have F6 := Lib.hid (blk_below F5.out hb); have f0 := (blk_cell F6.out 0).trans rfl; clear hb) | (go_at_call 14; (with_reducible refine (HCE.out _ _ _ _ _ N6.out S6.out).mono ?_); rintro e1 W7 ⟨rfl, nq, hw⟩; have B7 := Lib.hid (show Below W.heap.size W W7 by rw [hw]; exact belN B6.out _); clear hw))
      go_ret
      exact ⟨rfl, B7.out⟩
    · have hs := showOf_left h0
      obtain ⟨S, hS⟩ : ∃ S, showOf o = S := ⟨_, rfl⟩
      rw [hS] at CS hs h0
      obtain ⟨S1, S2⟩ := S
      simp only at hs h0 CS
      subst hs
      have hx : (S2 != 0) = true := by rw [bne_iff_ne]; exact h0
      rw [show mkB [] = ⟨#[]⟩ from rfl] at CS
      clear hn hcap hv hz hP hb hL h200 h300 hbd h0 hS
      go_enter Tryz.func6, Tryz.ntmps6
      go_wp2_with (first | (go_at_call 10; (with_reducible refine CB.out.mono ?_); rintro e1 W1 ⟨rfl, hw⟩; have hw2 := hw.symm; clear hw; subst hw2) | (go_at_call 18; (with_reducible refine CS.out.mono ?_); rintro e1 W1 ⟨rfl, hb⟩; have B1 := Lib.hid hb; clear hb) | (go_at_call 17; (with_reducible refine (shows_calls _ (HPW.out.below B1.out HPW.out.lt)).mono ?_); rintro e1 W3 ⟨rfl, hb⟩; have B3 := Lib.hid (B1.out.trans (hb.mono B1.out.size)); clear hb))
      go_ret
      exact ⟨rfl, B3.out⟩
end Go.Proofs.YtoefnmhmiphilaaGreatDoor.Tp

namespace Go.Proofs.YtoefnmhmiphilaaGreatDoor.Tp
open Go Go.RowKit Go.Maps Go.Proofs.YtoefnmhmiphilaaGreatDoorW.PrintWords
theorem pget_none (W : World) (A : Option Addr) (n cap : Nat) (o : List Nd) (hL : Lst W A n o) (key : ByteArray) (h : getOf o key.data.toList = none) :
    Calls Tryz.prog 20 #[.slice A n cap, .string key] W fun e W' => e = .returned (.tuple #[.slice none 0 0, .bool false]) ∧ Below W.heap.size W W' :=
  (pget_calls W A n cap o hL key).mono fun e W' hG => by unfold GRes at hG; rw [h] at hG; exact ⟨hG.2, hG.1⟩
theorem pget_some (W : World) (A : Option Addr) (n cap : Nat) (o : List Nd) (hL : Lst W A n o) (key : ByteArray) {c : Tr} {k : Nat} (h : getOf o key.data.toList = some c) (hk : (flat c).length = k) :
    Calls Tryz.prog 20 #[.slice A n cap, .string key] W fun e W' => ∃ g c', e = .returned (.tuple #[.slice (some ⟨g, 0, none⟩) k c', .bool true]) ∧ W'.ownsRow W.heap.size 32 4 (.slice (some ⟨g, 0, none⟩) k c') k (encs (flat c)) ∧ Below W.heap.size W W' :=
  (pget_calls W A n cap o hL key).mono fun e W' hG => by
    unfold GRes at hG; rw [h] at hG
    obtain ⟨hb, A', c', he, ho⟩ := hG
    rw [hk] at he ho
    have h0 : 0 < (flat c).length := List.length_pos_iff.2 (flat_ne c)
    obtain ⟨k', rfl⟩ : ∃ k', k = k' + 1 := ⟨k - 1, by omega⟩
    obtain ⟨g, cc, hv⟩ := own_form ho
    injection hv with a1 a2 a3
    subst a1; subst a3
    exact ⟨g, c', he, ho, hb⟩
theorem Tr.sub {P : Nd → Prop} {t : Tr} (h : ∀ x ∈ flat t, P x) {u : Tr} (hu : u ∈ t.kids) : ∀ x ∈ flat u, P x := by
  obtain ⟨n, b⟩ := t
  intro x hx
  refine h x ?_
  rw [flat, List.mem_append]
  exact .inl (nd_flats hu x hx)
theorem getT_txt {P : Nd → Prop} {t c : Tr} {key : List UInt8} (h : getT t key = some c) (hP : ∀ x ∈ flat t, P x) : ∀ x ∈ flat c, P x := by
  unfold getT at h
  split at h
  · rw [Option.bind_eq_some_iff] at h
    obtain ⟨m, h1, h2⟩ := h
    have hm := List.mem_of_find?_eq_some h1
    have hc : c ∈ m.kids := by
      obtain ⟨nn, b⟩ := m
      cases b with
      | nil => cases h2
      | cons x l => simp only [Tr.kids, List.head?_cons, Option.some.injEq] at h2; subst h2; simp [Tr.kids]
    exact Tr.sub (Tr.sub hP hm) hc
  · cases h
set_option maxHeartbeats 8000000 in
set_option maxRecDepth 100000 in
theorem shownMembers_calls (W : World) (A : Option Addr) (n cap : Nat) (o : List Nd) (hn : o.length = n) (hcap : n ≤ cap) (hv : Nv W A o) (hz : A = none → cap = 0) (key : ByteArray) (hks : key.size ≤ 140737488351232) (hP : PowD W) :
    Calls Tryz.prog 9 #[.slice A n cap, .string key] W fun e W' => e = .returned (.bool true) ∧ Below W.heap.size W W' := by
  have CB := Lib.hid (big_any W A n cap o hn hv)
  cases hb : bigOf o with
  | true =>
    rw [hb] at CB
    clear hn hcap hv hz hP hb hks
    go_enter Tryz.func9, Tryz.ntmps9
    go_wp2_with (first | (go_at_call 10; (with_reducible refine CB.out.mono ?_); rintro e1 W1 ⟨rfl, hw⟩; have hw2 := hw.symm; clear hw; subst hw2))
    go_ret
    exact ⟨rfl, Below.refl _ _⟩
  | false =>
    rw [hb] at CB
    by_cases hk3 : 300 < key.size
    · have d1 : decide ((300 : Int) < (key.size : Int)) = true := by simp; omega
      clear hn hcap hv hz hP hb hks hk3
      go_enter Tryz.func9, Tryz.ntmps9
      go_wp2_with (first | (go_at_call 10; (with_reducible refine CB.out.mono ?_); rintro e1 W1 ⟨rfl, hw⟩; have hw2 := hw.symm; clear hw; subst hw2))
      go_ret
      exact ⟨rfl, Below.refl _ _⟩
    · have d1 : decide ((300 : Int) < (key.size : Int)) = false := by simp; omega
      obtain ⟨hL, h200, h300⟩ := lst_small hn hv hb
      have HPW := Lib.hid hP
      cases ha : apart o with
      | error x =>
        have CS := Lib.hid (psort_err W A n cap o hL ha)
        have CG := Lib.hid (fun V (h : Below W.heap.size W V) => pget_none V A n cap o (hL.below h (Nat.le_refl _)) key (by unfold getOf; rw [ha]))
        have CG2 := Lib.hid (fun V => pget_none V none 0 0 [] ⟨rfl, .inl rfl, by decide, by simp⟩ key (by unfold getOf; rw [sx7]))
        have hx := apart_code ha
        clear hn hcap hv hz hP hb hks hk3 hL h200 h300 ha
        go_enter Tryz.func9, Tryz.ntmps9
        go_wp2_with (first | (go_at_call 10; (with_reducible refine CB.out.mono ?_); rintro e1 W1 ⟨rfl, hw⟩; have hw2 := hw.symm; clear hw; subst hw2) | (go_at_call 12; (with_reducible refine CS.out.mono ?_); rintro e1 W1 ⟨rfl, hb⟩; have B1 := Lib.hid hb; clear hb) | (go_at_call 20; first | ((with_reducible refine (CG.out _ B1.out).mono ?_); rintro e1 W2 ⟨rfl, hb⟩; have B2 := Lib.hid (B1.out.trans (hb.mono B1.out.size)); clear hb CG) | ((with_reducible refine (CG2.out _).mono ?_); rintro e1 W3 ⟨rfl, hb⟩; have B3 := Lib.hid (B2.out.trans (hb.mono B2.out.size)); clear hb)) | (go_at_call 17; (with_reducible refine (shows_calls _ (HPW.out.below B3.out HPW.out.lt)).mono ?_); rintro e1 W4 ⟨rfl, hb⟩; have B4 := Lib.hid (B3.out.trans (hb.mono B3.out.size)); clear hb))
        go_ret
        exact ⟨rfl, B4.out⟩
      | ok t =>
        have CS := Lib.hid (psort_ok W A n cap o hL ha)
        obtain ⟨ha1, ha2, ha3, ha4, ha5⟩ := apart_ok.1 ha
        have hsl : (flat (sortT t)).length = n := by rw [flat_sort_len, ha2, hn]
        have htx := sort_txt ha2 hL.txt
        have LS := Lib.hid (fun (V : World) (g c : Nat) (base : Nat) (ho : V.ownsRow base 32 4 (.slice (some ⟨g, 0, none⟩) n c) n (encs (flat (sortT t)))) => own_Lst ho hsl hL.few htx)
        have HL := Lib.hid hL
        have hge : getOf o key.data.toList = getT t key.data.toList := by unfold getOf; rw [ha]
        have hge2 : getOf (flat (sortT t)) key.data.toList = (getT t key.data.toList).map sortT := by unfold getOf; rw [apart_sort ha]; exact getT_sort ha3 _
        cases hg : getT t key.data.toList with
        | none =>
          rw [hg] at hge hge2
          have CG := Lib.hid (fun V (h : Below W.heap.size W V) => pget_none V A n cap o (hL.below h (Nat.le_refl _)) key hge)
          have CG2 := Lib.hid (fun V g c (h : Lst V (some ⟨g, 0, none⟩) n (flat (sortT t))) => pget_none V (some ⟨g, 0, none⟩) n c (flat (sortT t)) h key hge2)
          clear hn hcap hv hz hP hb hks hk3 hL h200 h300 ha ha1 ha2 ha3 ha4 ha5 hsl htx hge hge2 hg
          go_enter Tryz.func9, Tryz.ntmps9
          go_wp2_with (first | (go_at_call 10; (with_reducible refine CB.out.mono ?_); rintro e1 W1 ⟨rfl, hw⟩; have hw2 := hw.symm; clear hw; subst hw2) | (go_at_call 12; (with_reducible refine CS.out.mono ?_); rintro e1 W1 ⟨g1, c1, rfl, ho, hb⟩; have B1 := Lib.hid hb; have L1 := Lib.hid (LS.out _ _ _ _ ho); clear hb ho) | (go_at_call 20; first | ((with_reducible refine (CG.out _ B1.out).mono ?_); rintro e1 W2 ⟨rfl, hb⟩; have B2 := Lib.hid (B1.out.trans (hb.mono B1.out.size)); have L2 := Lib.hid (L1.out.below hb (Nat.le_refl _)); clear hb CG) | ((with_reducible refine (CG2.out _ _ _ L2.out).mono ?_); rintro e1 W3 ⟨rfl, hb⟩; have B3 := Lib.hid (B2.out.trans (hb.mono B2.out.size)); clear hb)) | (go_at_call 17; (with_reducible refine (shows_calls _ (HPW.out.below B3.out HPW.out.lt)).mono ?_); rintro e1 W4 ⟨rfl, hb⟩; have B4 := Lib.hid (B3.out.trans (hb.mono B3.out.size)); clear hb))
          go_ret
          exact ⟨rfl, B4.out⟩
        | some c =>
          rw [hg] at hge hge2
          obtain ⟨gc1, gc2⟩ := getT_ok ha3 ha5 (by rw [ha2]; exact ha1) hg
          have hcx := getT_txt (P := fun x => x.f1.size ≤ 1048576) hg (by rw [ha2]; exact hL.txt)
          obtain ⟨_, _, gok, _, _⟩ := apart_ok.1 gc1
          obtain ⟨k, hk⟩ : ∃ k, (flat c).length = k := ⟨_, rfl⟩
          have hk2 : (flat (sortT c)).length = k := by rw [flat_sort_len, hk]
          have hkn : k ≤ 4294967296 := by have := hL.few; rw [ha2, hn] at gc2; omega
          have CG := Lib.hid (fun V (h : Below W.heap.size W V) => pget_some V A n cap o (hL.below h (Nat.le_refl _)) key hge hk)
          have CG2 := Lib.hid (fun V g c2 (h : Lst V (some ⟨g, 0, none⟩) n (flat (sortT t))) => pget_some V (some ⟨g, 0, none⟩) n c2 (flat (sortT t)) h key (c := sortT c) (by rw [hge2]; rfl) hk2)
          have hcx2 := sort_txt (t := c) rfl hcx
          have LA := Lib.hid (fun (V : World) (g c2 : Nat) (base : Nat) (ho : V.ownsRow base 32 4 (.slice (some ⟨g, 0, none⟩) k c2) k (encs (flat c))) => own_Lst ho hk hkn hcx)
          have LB := Lib.hid (fun (V : World) (g c2 : Nat) (base : Nat) (ho : V.ownsRow base 32 4 (.slice (some ⟨g, 0, none⟩) k c2) k (encs (flat (sortT c)))) => own_Lst ho hk2 hkn hcx2)
          have CE := Lib.hid (fun (V : World) (g1 g2 c1 c2 : Nat) (h1 : Lst V (some ⟨g1, 0, none⟩) k (flat c)) (h2 : Lst V (some ⟨g2, 0, none⟩) k (flat (sortT c))) => show Calls Tryz.prog 22 #[.slice (some ⟨g1, 0, none⟩) k c1, .slice (some ⟨g2, 0, none⟩) k c2] V fun e W' => e = .returned (.bool true) ∧ Below V.heap.size V W' from by
            have := psame_calls V _ _ k k c1 c2 (flat c) (flat (sortT c)) h1 h2
            rwa [show sameOf (flat c) (flat (sortT c)) = true by unfold sameOf; rw [gc1, apart_sort gc1]; simp only [(sort_facts c gok).2.2.2]; simp] at this)
          have CK := Lib.hid (fun (V : World) (g1 c1 : Nat) (h1 : Lst V (some ⟨g1, 0, none⟩) k (flat c)) => show Calls Tryz.prog 15 #[.slice (some ⟨g1, 0, none⟩) k c1] V fun e W' => e = .returned (.int .i64 0) ∧ Below V.heap.size V W' from by
            have := pcheck_calls V _ k c1 (flat c) h1
            rwa [gc1, show errOf (.ok c) = 0 from rfl] at this)
          clear hn hcap hv hz hP hb hks hk3 hL h200 h300 ha ha1 ha2 ha3 ha4 ha5 hsl htx hge hge2 hg gc1 gc2 hcx gok hk hk2 hkn hcx2
          go_enter Tryz.func9, Tryz.ntmps9
          go_wp2_with (first | (go_at_call 10; (with_reducible refine CB.out.mono ?_); rintro e1 W1 ⟨rfl, hw⟩; have hw2 := hw.symm; clear hw; subst hw2) | (go_at_call 12; (with_reducible refine CS.out.mono ?_); rintro e1 W1 ⟨g1, c1, rfl, ho, hb⟩; have B1 := Lib.hid hb; have L1 := Lib.hid (LS.out _ _ _ _ ho); clear hb ho) | (go_at_call 20; first | ((with_reducible refine (CG.out _ B1.out).mono ?_); rintro e1 W2 ⟨g2, c2, rfl, ho, hb⟩; have B2 := Lib.hid (B1.out.trans (hb.mono B1.out.size)); have L2 := Lib.hid (L1.out.below hb (Nat.le_refl _)); have A2 := Lib.hid (LA.out _ _ _ _ ho); clear hb ho CG) | ((with_reducible refine (CG2.out _ _ _ L2.out).mono ?_); rintro e1 W3 ⟨g3, c3, rfl, ho, hb⟩; have B3 := Lib.hid (B2.out.trans (hb.mono B2.out.size)); have A3 := Lib.hid (A2.out.below hb (Nat.le_refl _)); have D3 := Lib.hid (LB.out _ _ _ _ ho); clear hb ho)) | (go_at_call 17; (with_reducible refine (shows_calls _ (HPW.out.below B3.out HPW.out.lt)).mono ?_); rintro e1 W4 ⟨rfl, hb⟩; have B4 := Lib.hid (B3.out.trans (hb.mono B3.out.size)); have A4 := Lib.hid (A3.out.below hb (Nat.le_refl _)); have D4 := Lib.hid (D3.out.below hb (Nat.le_refl _)); clear hb) | (go_at_call 22; (with_reducible refine (CE.out _ _ _ _ _ A4.out D4.out).mono ?_); rintro e1 W5 ⟨rfl, hb⟩; have B5 := Lib.hid (B4.out.trans (hb.mono B4.out.size)); have A5 := Lib.hid (A4.out.below hb (Nat.le_refl _)); clear hb) | (go_at_call 15; (with_reducible refine (CK.out _ _ _ A5.out).mono ?_); rintro e1 W6 ⟨rfl, hb⟩; have B6 := Lib.hid (B5.out.trans (hb.mono B5.out.size)); clear hb))
          go_ret
          exact ⟨rfl, B6.out⟩
end Go.Proofs.YtoefnmhmiphilaaGreatDoor.Tp
