/- Texts of the claim, merged. -/
import Derived.Test.YtoefnmhmiphilaaGreatDoorM0
import Derived.Test.YtoefnmhmiphilaaGreatDoorM3
import Derived.Test.YtoefnmhmiphilaaGreatDoorM4
import Derived.Shelf.Strings.SlTrimAscii
import Derived.StillTailTactics
import Derived.Deep.RegionHeld3
import Derived.Sort.CutIn
import Derived.Deep.LoopGhost
import Derived.Lib.Atoi
import Derived.Shelf.Strings.Builder1
import Derived.Test.YtoefnmhmiphilaaGreatDoorProg
import Derived.ScopeJumps
import Derived.WalkMore
import Derived.Test.YtoefnmhmiphilaaGreatDoorM1
import Derived.Maps.OwnOps
import Derived.Maps.OwnSet
import GoSem.Op.String
import Derived.Lib.ItoaNum
set_option linter.unusedVariables false
set_option linter.unusedSimpArgs false
namespace Go.Proofs.YtoefnmhmiphilaaGreatDoor.Tp
open Go Go.RowKit Go.Proofs.YtoefnmhmiphilaaGreatDoorW.PrintWords
section
variable {W : World} {g base : Nat} {s : ByteArray} {p : Nat} {o : List Nd} {c a : Int} {v : Value}
theorem rest_suffix {s : ByteArray} {p : Nat} {c x : List UInt8} (hp : p ≤ s.size) (e : rest s p = c ++ x) : rest s (s.size - x.length) = x ∧ s.size - x.length = p + c.length := by
  have h1 := congrArg List.length e
  rw [rest_len, List.length_append] at h1
  have h2 : s.size - x.length = p + c.length := by omega
  exact ⟨by rw [h2]; exact rest_app e, h2⟩
theorem rest_skip {s : ByteArray} {p : Nat} (hp : p ≤ s.size) : rest s (s.size - (skip (rest s p)).length) = skip (rest s p) := by
  obtain ⟨c, e, _⟩ := skip_self (rest s p)
  exact (rest_suffix hp e).1
def top : List UInt8 → Int
  | [] => 0
  | b :: _ => (b.toNat : Int)
theorem blanks_eq (x : UInt8) : List.contains [32, 10, 9] x = blank x := by
  show (x == 32 || (x == 10 || (x == 9 || false))) = _
  simp [blank, Bool.or_assoc]
theorem trimLeft_calls (t : ByteArray) (W : World) : Calls Tryz.prog 66 #[.string t, .string ⟨#[32, 10, 9]⟩] W fun e W' => e = .returned (.string ⟨(skip t.data.toList).toArray⟩) ∧ Below W.heap.size W W' := by
  have h := Any.strings_TrimLeft_laid Tryz.lays161 (by kernel_rfl) t ⟨#[32, 10, 9]⟩ W (by decide) (ascii_of_all (by decide))
  have e : Lib.trimLeftS t.data.toList (⟨#[32, 10, 9]⟩ : ByteArray).data.toList = skip t.data.toList := by
    unfold Lib.trimLeftS skip
    congr 1
    funext x
    exact blanks_eq x
  rw [e] at h
  exact h
set_option maxHeartbeats 2000000 in
set_option maxRecDepth 100000 in
theorem next_calls (h : Sc W g base s p o c a v) (X : Nat → Prop) (hz : s.size ≤ 4611686018427387904) :
    Calls Tryz.prog 38 #[.pointer (some ⟨g, 0, none⟩)] W fun r W' => r = .returned (.int .u8 (top (skip (rest s p)))) ∧ Sc W' g base s (s.size - (skip (rest s p)).length) o c a v ∧ Stp X g W v W' v := by
  obtain ⟨c0, c1, c2, c3, c4⟩ := h.reads
  have hp := h.le
  have H := Lib.hid h
  clear h
  have hx : (s.extract p s.size).data.toList = rest s p := by unfold rest; simp [ByteArray.data_extract]; rw [List.take_of_length_le (by rw [List.length_drop]; exact Nat.le_refl _)]
  have CT := Lib.hid (fun W => trimLeft_calls (s.extract p s.size) W)
  rw [hx] at CT
  have hlen : (skip (rest s p)).length ≤ s.size := by
    obtain ⟨c, e, _⟩ := skip_self (rest s p)
    have h1 := congrArg List.length e
    rw [List.length_append, rest_len] at h1
    omega
  clear hx
  obtain ⟨t, ht⟩ : ∃ t, skip (rest s p) = t := ⟨_, rfl⟩
  rw [ht] at CT hlen
  rw [ht]
  clear ht
  obtain ⟨T, hT⟩ : ∃ T : ByteArray, (⟨t.toArray⟩ : ByteArray) = T := ⟨_, rfl⟩
  have hTs : T.size = t.length := by rw [← hT]; rfl
  have hTl : T.toList = t := by rw [← hT]; simp
  rw [hT] at CT
  obtain ⟨q, hq0⟩ : ∃ q, s.size - t.length = q := ⟨_, rfl⟩
  rw [hq0]
  have hq : (s.size : Int) - (t.length : Int) = (q : Int) := by omega
  have HQ := Lib.hid hq0
  clear hq0
  cases t with
  | nil =>
    have he : T.toList.isEmpty = true := by rw [hTl]; rfl
    clear hTl hT
    go_enter Tryz.func38, Tryz.ntmps38
    go_wp2
    go_still_tail 9, (by kernel_rfl)
    change wpList _ _ _ _ _ W.drew
    go_wp2_with (go_at_call 66; refine (CT.out _).mono ?_; rintro e W1 ⟨rfl, hb⟩; have S1 := Lib.hid (H.out.drew.below hb); have T1 := Lib.hid hb; obtain ⟨d0, d1, d2, d3, d4⟩ := S1.out.reads; have f1 := S1.out.frz 1; clear hb)
    go_ret
    obtain rfl : s.size = q := HQ.out
    exact ⟨rfl, S1.out.at_ _ (Nat.le_refl _), ((((Stp.refl X g W v).drew).trans ⟨Kp.of_below T1.out, fun _ h => .inl h⟩).set _)⟩
  | cons b t =>
    have he : T.toList.isEmpty = false := by rw [hTl]; rfl
    have h0 : 0 < T.size := by rw [hTs]; simp
    have hb0 : T[0]'h0 = b := by subst hT; rfl
    rw [List.length_cons] at hTs hq
    have hq' : (s.size : Int) - ((t.length : Int) + 1) = (q : Int) := by omega
    clear hq
    have hlen' : t.length + 1 ≤ s.size := hlen
    clear hTl hT
    go_enter Tryz.func38, Tryz.ntmps38
    go_wp2
    go_still_tail 9, (by kernel_rfl)
    change wpList _ _ _ _ _ W.drew
    go_wp2_with (go_at_call 66; refine (CT.out _).mono ?_; rintro e W1 ⟨rfl, hb⟩; have S1 := Lib.hid (H.out.drew.below hb); have T1 := Lib.hid hb; obtain ⟨d0, d1, d2, d3, d4⟩ := S1.out.reads; have f1 := S1.out.frz 1; clear hb)
    go_ret
    exact ⟨rfl, S1.out.at_ _ (by have := HQ.out; omega), ((((Stp.refl X g W v).drew).trans ⟨Kp.of_below T1.out, fun _ h => .inl h⟩).set _)⟩

theorem u8_ne {x y : UInt8} (h : x ≠ y) : ((x.toNat : Int) == (y.toNat : Int)) = false := by
  have : x.toNat ≠ y.toNat := fun e => h (UInt8.toNat_inj.1 e)
  simp; omega
set_option maxHeartbeats 2000000 in
set_option maxRecDepth 100000 in
theorem take_ok (h : Sc W g base s p o c a v) (X : Nat → Prop) (hz : s.size ≤ 4611686018427387904) (b : UInt8) (t : List UInt8) (ht : takeB b (rest s p) = .ok t) :
    Calls Tryz.prog 79 #[.pointer (some ⟨g, 0, none⟩), .int .u8 (b.toNat : Int)] W fun r W' => r = .returned (.bool true) ∧ Sc W' g base s (s.size - t.length) o c a v ∧ Stp X g W v W' v := by
  have hp := h.le
  have hs : skip (rest s p) = b :: t := by
    unfold takeB at ht
    cases hs : skip (rest s p) with
    | nil => rw [hs] at ht; cases ht
    | cons x u =>
      rw [hs] at ht
      simp only at ht
      split at ht
      · rename_i e; cases ht; rw [e]
      · cases ht
  have CN := Lib.hid (next_calls h X hz)
  rw [hs, show top (b :: t) = (b.toNat : Int) from rfl] at CN
  have hl : s.size - (b :: t).length + 1 = s.size - t.length := by
    have := rest_len s p
    obtain ⟨x, e, _⟩ := skip_self (rest s p)
    rw [hs] at e
    have h1 := congrArg List.length e
    rw [List.length_append, List.length_cons] at h1
    rw [List.length_cons]
    omega
  have hle : s.size - t.length ≤ s.size := by omega
  obtain ⟨q, hq⟩ : ∃ q, s.size - (b :: t).length = q := ⟨_, rfl⟩
  rw [hq] at CN hl
  rw [← hl] at hle ⊢
  clear h ht hs hl hq hp
  go_enter Tryz.func79, Tryz.ntmps79
  go_wp2_with (go_at_call 38; refine CN.out.mono ?_; rintro e W1 ⟨rfl, hS, hT⟩; have S1 := Lib.hid hS; obtain ⟨d0, d1, d2, d3, d4⟩ := hS.reads; have f1 := hS.frz 1; clear hS)
  go_ret
  exact ⟨rfl, S1.out.at_ _ hle, hT.set _⟩
set_option maxHeartbeats 2000000 in
set_option maxRecDepth 100000 in
theorem take_err (h : Sc W g base s p o c a v) (X : Nat → Prop) (hz : s.size ≤ 4611686018427387904) (b : UInt8) (hb : b ≠ 0) (x : Int × Nat) (ht : takeB b (rest s p) = .error x) :
    Calls Tryz.prog 79 #[.pointer (some ⟨g, 0, none⟩), .int .u8 (b.toNat : Int)] W fun r W' => r = .returned (.bool false) ∧ (∃ q, Sc W' g base s q o x.1 ((s.size : Int) - x.2) v) ∧ Stp X g W v W' v := by
  have hp := h.le
  have CN := Lib.hid (next_calls h X hz)
  have hr := rest_skip hp
  have hd : (top (skip (rest s p)) == (b.toNat : Int)) = false ∧ odd (skip (rest s p)) = x := by
    unfold takeB at ht
    cases hs : skip (rest s p) with
    | nil =>
      rw [hs] at ht
      cases ht
      exact ⟨u8_ne (x := 0) (Ne.symm hb), rfl⟩
    | cons y u =>
      rw [hs] at ht
      simp only at ht
      split at ht
      · cases ht
      · rename_i e
        cases ht
        exact ⟨u8_ne e, by simp [odd]⟩
  obtain ⟨hd, ho⟩ := hd
  have hd' : (top (skip (rest s p)) != (b.toNat : Int)) = true := by rw [bne, hd]; rfl
  have HO := Lib.hid ho
  have HR := Lib.hid hr
  obtain ⟨q, hq⟩ : ∃ q, s.size - (skip (rest s p)).length = q := ⟨_, rfl⟩
  rw [hq] at CN HR
  obtain ⟨N, hN⟩ : ∃ N, top (skip (rest s p)) = N := ⟨_, rfl⟩
  rw [hN] at CN hd hd'
  clear h ht hr hp ho hq hN
  go_enter Tryz.func79, Tryz.ntmps79
  go_wp2_with (first | (go_at_call 38; refine CN.out.mono ?_; rintro e W1 ⟨rfl, hS, hT⟩; have S1 := Lib.hid hS; clear hS) | (go_at_call 39; refine (odd_calls S1.out X).mono ?_; rintro e W2 ⟨rfl, hS2, hT2⟩; have S2 := Lib.hid hS2; clear hS2))
  go_ret
  have h2 := S2.out
  rw [HR.out, HO.out] at h2
  exact ⟨rfl, ⟨q, h2⟩, hT.trans hT2⟩
end
end Go.Proofs.YtoefnmhmiphilaaGreatDoor.Tp

namespace Go.Proofs.YtoefnmhmiphilaaGreatDoor.Tp
open Go Go.RowKit Go.Proofs.YtoefnmhmiphilaaGreatDoorW.PrintWords
section
variable {W : World} {g base : Nat} {s : ByteArray} {p : Nat} {o : List Nd} {c a : Int} {v : Value}
set_option maxHeartbeats 4000000 in
set_option maxRecDepth 100000 in
theorem span_small (h : Sc W g base s p o c a v) (X : Nat → Prop) (hz : s.size ≤ 4611686018427387904) :
    Calls Tryz.prog 77 #[.pointer (some ⟨g, 0, none⟩), .func (.func 56) #[] #[]] W fun r W' => r = .returned (.string ⟨((rest s p).takeWhile small).toArray⟩) ∧ Sc W' g base s (p + ((rest s p).takeWhile small).length) o c a v ∧ Stp X g W v W' v := by
  obtain ⟨c0, c1, c2, c3, c4⟩ := h.reads
  have H := Lib.hid h
  clear h
  go_enter Tryz.func77, Tryz.ntmps77
  go_wp2
  go_loopg [] (s.size - p) (fun k W' => ∃ q : Nat, Hid (Sc W' g base s q o c a v) ∧ Hid (Stp X g W v W' v) ∧ Hid (k = s.size - q) ∧ Hid (∃ w, rest s p = w ++ rest s q ∧ w.all small = true ∧ q = p + w.length))
  case atStart => exact ⟨p, H, Lib.hid (Stp.refl X g W v), Lib.hid rfl, Lib.hid ⟨[], rfl, rfl, rfl⟩⟩
  case round =>
    clear c0 c1 c2 c3 c4
    obtain ⟨q, HS, HT, HK, HW⟩ := hrel
    obtain ⟨c0, c1, c2, c3, c4⟩ := HS.out.reads
    have f1 := HS.out.frz 1
    have hq := HS.out.le
    have hp := H.out.le
    by_cases hlt : q < s.size
    · have d1 : decide ((q : Int) < (s.size : Int)) = true := by simp; omega
      obtain ⟨b, hb⟩ : ∃ b, s[q]'hlt = b := ⟨_, rfl⟩
      have hrq := rest_cons hlt
      rw [hb] at hrq
      have HR := Lib.hid hrq
      clear hrq
      cases hf : small b with
      | true =>
        go_wp2_with fail
        go_quiet ((go_at_call 56; exact Calls.quiet_of_same (small_calls b _)))
        go_wp2
        go_roundg (s.size - (q + 1))
        case rel =>
          refine ⟨q + 1, Lib.hid ((HS.out.drewN _).at_ (q + 1) (by omega)), Lib.hid ((HT.out.drewN _).set _), Lib.hid rfl, Lib.hid ?_⟩
          obtain ⟨w, e1, e2, e3⟩ := HW.out
          rw [HR.out] at e1
          exact ⟨w ++ [b], by rw [e1]; simp, by rw [List.all_append, e2]; simp [hf], by simp; omega⟩
        case measure => have := HK.out; omega
      | false =>
        obtain ⟨w, e1, e2, e3⟩ := HW.out
        have hw := while_follow (w := w) (x := rest s q) e2 (fun y t e => by rw [HR.out] at e; cases e; exact hf)
        rw [← e1] at hw
        have hx : (s.extract p q) = ⟨w.toArray⟩ := by
          apply ByteArray.ext
          apply Array.toList_inj.1
          have e4 : s.data.toList.drop p = w ++ rest s q := e1
          have e5 : q - p = w.length := by omega
          simp [ByteArray.data_extract, e4, e5]
        have HX := Lib.hid hx
        have HW1 := Lib.hid hw.1
        have HE := Lib.hid e3
        have hpq : (p : Int) ≤ (q : Int) := by omega
        clear hw hx e1 e2 e3
        go_wp2_with fail
        go_quiet ((go_at_call 56; exact Calls.quiet_of_same (small_calls b _)))
        go_wp2
        go_quiet (fail)
        go_wp2
        go_ret
        refine ⟨by rw [HW1.out]; first | rfl | (rw [← HX.out]; rfl), ?_, (HT.out.drewN _).drewN _⟩
        rw [HW1.out, ← HE.out]
        exact (HS.out.drewN _).drewN _
    · obtain rfl : q = s.size := by omega
      have d1 : decide ((s.size : Int) < (s.size : Int)) = false := by simp
      obtain ⟨w, e1, e2, e3⟩ := HW.out
      have hn : rest s s.size = [] := (rest_nil (Nat.le_refl _)).2 rfl
      have hw := while_follow (w := w) (x := rest s s.size) e2 (fun y t e => by rw [hn] at e; cases e)
      rw [← e1] at hw
      have hx : (s.extract p s.size) = ⟨w.toArray⟩ := by
        apply ByteArray.ext
        apply Array.toList_inj.1
        have e4 : s.data.toList.drop p = w ++ rest s s.size := e1
        have e5 : s.size - p = w.length := by omega
        simp [ByteArray.data_extract, e4, e5]
      have HX := Lib.hid hx
      have HW1 := Lib.hid hw.1
      have HE := Lib.hid e3
      have hpq : (p : Int) ≤ (s.size : Int) := by omega
      clear hw hx e1 e2 e3 hn
      go_wp2_with fail
      go_quiet (fail)
      go_wp2
      go_wp2_with fail
      go_quiet (fail)
      go_wp2
      go_ret
      refine ⟨by rw [HW1.out]; first | rfl | (rw [← HX.out]; rfl), ?_, (HT.out.drewN _).drewN _⟩
      rw [HW1.out, ← HE.out]
      exact (HS.out.drewN _).drewN _
set_option maxHeartbeats 4000000 in
set_option maxRecDepth 100000 in
theorem span_digit (h : Sc W g base s p o c a v) (X : Nat → Prop) (hz : s.size ≤ 4611686018427387904) :
    Calls Tryz.prog 77 #[.pointer (some ⟨g, 0, none⟩), .func (.func 58) #[] #[]] W fun r W' => r = .returned (.string ⟨((rest s p).takeWhile digit).toArray⟩) ∧ Sc W' g base s (p + ((rest s p).takeWhile digit).length) o c a v ∧ Stp X g W v W' v := by
  obtain ⟨c0, c1, c2, c3, c4⟩ := h.reads
  have H := Lib.hid h
  clear h
  go_enter Tryz.func77, Tryz.ntmps77
  go_wp2
  go_loopg [] (s.size - p) (fun k W' => ∃ q : Nat, Hid (Sc W' g base s q o c a v) ∧ Hid (Stp X g W v W' v) ∧ Hid (k = s.size - q) ∧ Hid (∃ w, rest s p = w ++ rest s q ∧ w.all digit = true ∧ q = p + w.length))
  case atStart => exact ⟨p, H, Lib.hid (Stp.refl X g W v), Lib.hid rfl, Lib.hid ⟨[], rfl, rfl, rfl⟩⟩
  case round =>
    clear c0 c1 c2 c3 c4
    obtain ⟨q, HS, HT, HK, HW⟩ := hrel
    obtain ⟨c0, c1, c2, c3, c4⟩ := HS.out.reads
    have f1 := HS.out.frz 1
    have hq := HS.out.le
    have hp := H.out.le
    by_cases hlt : q < s.size
    · have d1 : decide ((q : Int) < (s.size : Int)) = true := by simp; omega
      obtain ⟨b, hb⟩ : ∃ b, s[q]'hlt = b := ⟨_, rfl⟩
      have hrq := rest_cons hlt
      rw [hb] at hrq
      have HR := Lib.hid hrq
      clear hrq
      cases hf : digit b with
      | true =>
        go_wp2_with fail
        go_quiet ((go_at_call 58; exact Calls.quiet_of_same (digit_calls b _)))
        go_wp2
        go_roundg (s.size - (q + 1))
        case rel =>
          refine ⟨q + 1, Lib.hid ((HS.out.drewN _).at_ (q + 1) (by omega)), Lib.hid ((HT.out.drewN _).set _), Lib.hid rfl, Lib.hid ?_⟩
          obtain ⟨w, e1, e2, e3⟩ := HW.out
          rw [HR.out] at e1
          exact ⟨w ++ [b], by rw [e1]; simp, by rw [List.all_append, e2]; simp [hf], by simp; omega⟩
        case measure => have := HK.out; omega
      | false =>
        obtain ⟨w, e1, e2, e3⟩ := HW.out
        have hw := while_follow (w := w) (x := rest s q) e2 (fun y t e => by rw [HR.out] at e; cases e; exact hf)
        rw [← e1] at hw
        have hx : (s.extract p q) = ⟨w.toArray⟩ := by
          apply ByteArray.ext
          apply Array.toList_inj.1
          have e4 : s.data.toList.drop p = w ++ rest s q := e1
          have e5 : q - p = w.length := by omega
          simp [ByteArray.data_extract, e4, e5]
        have HX := Lib.hid hx
        have HW1 := Lib.hid hw.1
        have HE := Lib.hid e3
        have hpq : (p : Int) ≤ (q : Int) := by omega
        clear hw hx e1 e2 e3
        go_wp2_with fail
        go_quiet ((go_at_call 58; exact Calls.quiet_of_same (digit_calls b _)))
        go_wp2
        go_quiet (fail)
        go_wp2
        go_ret
        refine ⟨by rw [HW1.out]; first | rfl | (rw [← HX.out]; rfl), ?_, (HT.out.drewN _).drewN _⟩
        rw [HW1.out, ← HE.out]
        exact (HS.out.drewN _).drewN _
    · obtain rfl : q = s.size := by omega
      have d1 : decide ((s.size : Int) < (s.size : Int)) = false := by simp
      obtain ⟨w, e1, e2, e3⟩ := HW.out
      have hn : rest s s.size = [] := (rest_nil (Nat.le_refl _)).2 rfl
      have hw := while_follow (w := w) (x := rest s s.size) e2 (fun y t e => by rw [hn] at e; cases e)
      rw [← e1] at hw
      have hx : (s.extract p s.size) = ⟨w.toArray⟩ := by
        apply ByteArray.ext
        apply Array.toList_inj.1
        have e4 : s.data.toList.drop p = w ++ rest s s.size := e1
        have e5 : s.size - p = w.length := by omega
        simp [ByteArray.data_extract, e4, e5]
      have HX := Lib.hid hx
      have HW1 := Lib.hid hw.1
      have HE := Lib.hid e3
      have hpq : (p : Int) ≤ (s.size : Int) := by omega
      clear hw hx e1 e2 e3 hn
      go_wp2_with fail
      go_quiet (fail)
      go_wp2
      go_wp2_with fail
      go_quiet (fail)
      go_wp2
      go_ret
      refine ⟨by rw [HW1.out]; first | rfl | (rw [← HX.out]; rfl), ?_, (HT.out.drewN _).drewN _⟩
      rw [HW1.out, ← HE.out]
      exact (HS.out.drewN _).drewN _
end
theorem drop_nil (p : UInt8 → Bool) : ∀ l : List UInt8, l.dropWhile p = [] ↔ l.all p = true
  | [] => by simp
  | c :: l => by
    cases h : p c with
    | true => rw [List.dropWhile_cons_of_pos h, List.all_cons, h, Bool.true_and]; exact drop_nil p l
    | false => rw [List.dropWhile_cons_of_neg (by rw [h]; simp), List.all_cons, h]; simp
theorem trimS_nil (l cs : List UInt8) : Lib.trimS l cs = [] ↔ l.all (fun x => cs.contains x) = true := by
  unfold Lib.trimS Lib.trimLeftS Lib.trimRightS
  have e : l = (l.reverse.dropWhile (cs.contains ·)).reverse ++ (l.reverse.takeWhile (cs.contains ·)).reverse := by
    rw [← List.reverse_append, List.takeWhile_append_dropWhile, List.reverse_reverse]
  have ht : (l.reverse.takeWhile (cs.contains ·)).all (cs.contains ·) = true := List.all_takeWhile
  rw [drop_nil]
  conv => rhs; rw [e, List.all_append, List.all_reverse (l := List.takeWhile _ _), ht, Bool.and_true]
theorem digits_eq (x : UInt8) : List.contains [48, 49, 50, 51, 52, 53, 54, 55, 56, 57] x = digit x := by
  have : ∀ y : Fin 256, List.contains [48, 49, 50, 51, 52, 53, 54, 55, 56, 57] (UInt8.ofNat y.val) = (decide (48 ≤ y.val) && decide (y.val ≤ 57)) := by decide +kernel
  have h := this ⟨x.toNat, UInt8.toNat_lt x⟩
  simpa [digit] using h
theorem trimD_calls (t : ByteArray) (W : World) (ht : t.size ≤ 4611686018427387904) : Calls Tryz.prog 98 #[.string t, .string ⟨#[48, 49, 50, 51, 52, 53, 54, 55, 56, 57]⟩] W fun e W' => ∃ T : ByteArray, e = .returned (.string T) ∧ T.toList.isEmpty = t.data.toList.all digit ∧ Below W.heap.size W W' := by
  have h := Any.strings_Trim_laid Tryz.lays160 (by kernel_rfl) t ⟨#[48, 49, 50, 51, 52, 53, 54, 55, 56, 57]⟩ W (by omega) (by decide) (ascii_of_all (by decide))
  refine h.mono ?_
  rintro e W' ⟨rfl, hb⟩
  refine ⟨_, rfl, ?_, hb⟩
  have e1 := trimS_nil t.data.toList [48, 49, 50, 51, 52, 53, 54, 55, 56, 57]
  have e2 : (fun x => List.contains [48, 49, 50, 51, 52, 53, 54, 55, 56, 57] x) = digit := funext digits_eq
  rw [e2] at e1
  have e3 : (⟨(Lib.trimS t.data.toList [48, 49, 50, 51, 52, 53, 54, 55, 56, 57]).toArray⟩ : ByteArray).toList = Lib.trimS t.data.toList [48, 49, 50, 51, 52, 53, 54, 55, 56, 57] := by simp
  show (⟨(Lib.trimS t.data.toList [48, 49, 50, 51, 52, 53, 54, 55, 56, 57]).toArray⟩ : ByteArray).toList.isEmpty = _
  rw [e3]
  cases h2 : t.data.toList.all digit with
  | true => rw [e1.2 h2]; rfl
  | false =>
    cases h3 : Lib.trimS t.data.toList [48, 49, 50, 51, 52, 53, 54, 55, 56, 57] with
    | nil => rw [e1.1 h3] at h2; cases h2
    | cons => rfl
theorem dec_val : ∀ (l : List UInt8) (m : Nat), l.all digit = true → ∃ n : Nat, Lib.decFrom m l = some n ∧ val l m = n
  | [], m, _ => ⟨m, rfl, rfl⟩
  | c :: t, m, h => by
    simp only [List.all_cons, Bool.and_eq_true] at h
    have hd : 48 ≤ c.toNat ∧ c.toNat ≤ 57 := by have := h.1; unfold digit at this; simpa using this
    obtain ⟨n, h1, h2⟩ := dec_val t (m * 10 + (c.toNat - 48)) h.2
    refine ⟨n, ?_, ?_⟩
    · simp only [Lib.decFrom, Lib.digitVal, if_pos hd]; exact h1
    · simp only [val]
      rw [← h2]
      congr 1
      omega
theorem val_bound : ∀ (l : List UInt8) (m : Int) (k : Int), l.all digit = true → 0 ≤ m → m < k → 0 ≤ val l m ∧ val l m < k * 10 ^ l.length
  | [], m, k, _, h0, h1 => by simp [val]; exact ⟨h0, h1⟩
  | c :: t, m, k, h, h0, h1 => by
    simp only [List.all_cons, Bool.and_eq_true] at h
    have hd : 48 ≤ c.toNat ∧ c.toNat ≤ 57 := by have := h.1; unfold digit at this; simpa using this
    have ih := val_bound t (10 * m + ((c.toNat : Int) - 48)) (10 * k) h.2 (by omega) (by omega)
    simp only [val, List.length_cons]
    refine ⟨ih.1, ?_⟩
    have e : k * 10 ^ (t.length + 1) = 10 * k * 10 ^ t.length := by rw [Int.pow_succ, Int.mul_comm 10 k, Int.mul_assoc, Int.mul_comm 10]
    rw [e]; exact ih.2
def unsigned (s : List UInt8) : List UInt8 := if s.head? = some 45 then s.tail else s
theorem num_def (s : List UInt8) : num s = if unsigned s = [] ∨ 6 < (unsigned s).length ∨ (unsigned s).all digit = false ∨ (unsigned s).head? = some 48 ∧ s ≠ [48] then none else some (if s.head? = some 45 then - val (unsigned s) 0 else val (unsigned s) 0) := rfl
theorem atoi_num {s : List UInt8} {n : Int} (h : num s = some n) : Lib.atoi s = some n ∧ s.length ≤ 7 ∧ -999999 ≤ n ∧ n ≤ 999999 := by
  rw [num_def] at h
  split at h
  · cases h
  · rename_i hh
    simp only [not_or, Bool.not_eq_false] at hh
    obtain ⟨h1, h2, h3, _⟩ := hh
    have hb := val_bound (unsigned s) 0 1 h3 (by omega) (by omega)
    have hp : (10 : Int) ^ (unsigned s).length ≤ 1000000 := by
      have : (unsigned s).length ≤ 6 := by omega
      have hk : ∀ k : Fin 7, (10 : Int) ^ k.val ≤ 1000000 := by decide
      exact hk ⟨_, by omega⟩
    obtain ⟨m, hm1, hm2⟩ := dec_val (unsigned s) 0 h3
    have hdn : Lib.decNat (unsigned s) = some m := by
      unfold Lib.decNat
      cases hu : unsigned s with
      | nil => exact absurd hu h1
      | cons c t => rw [hu] at hm1; exact hm1
    have hm2' : val (unsigned s) 0 = (m : Int) := hm2
    cases s with
    | nil => exact absurd rfl h1
    | cons c t =>
      by_cases hc : c = 45
      · subst hc
        have hu : unsigned (45 :: t) = t := by simp [unsigned]
        rw [hu] at h1 h2 h3 hdn hm2' hp hb h
        simp only [List.head?_cons, if_true, Option.some.injEq] at h
        refine ⟨?_, by simp only [List.length_cons]; omega, by omega, by omega⟩
        unfold Lib.atoi
        dsimp only
        rw [if_pos (by decide), hdn, ← h, hm2']
        rfl
      · have hu : unsigned (c :: t) = c :: t := by simp [unsigned, hc]
        rw [hu] at h1 h2 h3 hdn hm2' hp hb h
        simp only [List.head?_cons, Option.some.injEq, if_neg hc] at h
        have hcd : digit c = true := by simp only [List.all_cons, Bool.and_eq_true] at h3; exact h3.1
        have hc43 : ¬ c = 43 := by intro e; subst e; revert hcd; decide
        refine ⟨?_, by omega, by omega, by omega⟩
        unfold Lib.atoi
        dsimp only
        rw [if_neg (by simpa using hc), if_neg (by simpa using hc43), hdn, ← h, hm2']
        rfl

theorem prefix_eq (s : List UInt8) : Lib.trimPrefix s [45] = unsigned s := by
  unfold Lib.trimPrefix unsigned
  cases s with
  | nil => rfl
  | cons c t =>
    by_cases h : c = 45
    · subst h; simp [Lib.hasPrefix]
    · have h2 : ¬ (45 : UInt8) = c := fun e => h e.symm
      simp [Lib.hasPrefix, h, h2]
set_option maxHeartbeats 4000000 in
set_option maxRecDepth 100000 in
theorem number_none (s : ByteArray) (W : World) (hz : s.size ≤ 4611686018427387904) (h : num s.data.toList = none) :
    Calls Tryz.prog 78 #[.string s] W fun e W' => e = .returned (.tuple #[.int .i64 0, .bool false]) ∧ Below W.heap.size W W' := by
  have CP := fun W => Tryz.strings_TrimPrefix s ⟨#[45]⟩ W
  obtain ⟨D, hD⟩ : ∃ D : ByteArray, (⟨(Lib.trimPrefix s.data.toList [45]).toArray⟩ : ByteArray) = D := ⟨_, rfl⟩
  have hDl : D.data.toList = unsigned s.data.toList := by rw [← hD, ← prefix_eq]
  have hDt : D.toList = unsigned s.data.toList := (ByteArray.toList_eq D).trans hDl
  have hDz : D.size = (unsigned s.data.toList).length := by rw [← hDl]; rfl
  have CP' : ∀ W, Calls Tryz.prog 97 #[.string s, .string ⟨#[45]⟩] W fun e W' => e = .returned (.string D) ∧ W' = W := by rw [← hD]; exact CP
  have hle : (unsigned s.data.toList).length ≤ s.size := by
    unfold unsigned
    have : s.data.toList.length = s.size := rfl
    split
    · rw [List.length_tail]; omega
    · omega
  have CPH := Lib.hid CP'
  have CT := Lib.hid (fun W => trimD_calls D W (by omega))
  clear CP CP' hD
  rw [num_def] at h
  rw [hDl] at CT
  have hs2 : s.toList = s.data.toList := ByteArray.toList_eq s
  obtain ⟨d, hd⟩ : ∃ d, unsigned s.data.toList = d := ⟨_, rfl⟩
  rw [hd] at CT hDt hDz h hDl
  cases d with
  | nil =>
    have he : D.toList.isEmpty = true := by rw [hDt]; rfl
    clear hDt hDz h hDl CT hs2
    go_enter Tryz.func78, Tryz.ntmps78
    go_wp2_with (go_at_call 97; refine (CPH.out _).mono ?_; rintro e w' ⟨rfl, rfl⟩)
    go_ret2
    exact ⟨rfl, Below.refl _ _⟩
  | cons c t =>
    have he : D.toList.isEmpty = false := by rw [hDt]; rfl
    rw [List.length_cons] at hDz
    have h0 : 0 < D.size := by omega
    have hb0 : D[0]'h0 = c := by
      have : D.data.toList[0]? = some c := by rw [hDl]; rfl
      have h3 : D.data.toList[0]? = some (D[0]'h0) := by rw [List.getElem?_eq_getElem (by rw [Array.length_toList]; exact h0)]; rfl
      rw [h3] at this
      exact Option.some.inj this
    by_cases h6 : 6 < t.length + 1
    · have d6 : decide ((6 : Int) < (t.length : Int) + 1) = true := by simp; omega
      clear hDt h hDl CT hs2
      go_enter Tryz.func78, Tryz.ntmps78
      go_wp2_with (go_at_call 97; refine (CPH.out _).mono ?_; rintro e w' ⟨rfl, rfl⟩)
      go_ret2
      exact ⟨rfl, Below.refl _ _⟩
    · have d6 : decide ((6 : Int) < (t.length : Int) + 1) = false := by simp; omega
      cases ha : (c :: t).all digit with
      | false =>
        rw [ha] at CT
        clear hDt h hDl hs2
        go_enter Tryz.func78, Tryz.ntmps78
        go_wp2_with (first | (go_at_call 97; refine (CPH.out _).mono ?_; rintro e w' ⟨rfl, rfl⟩) | (go_at_call 98; refine (CT.out _).mono ?_; rintro e w' ⟨T, rfl, hT, hb⟩))
        go_ret2
        exact ⟨rfl, hb⟩
      | true =>
        rw [ha] at CT
        have hh : c = 48 ∧ s.data.toList ≠ [48] := by
          split at h
          · rename_i hx
            rcases hx with hx | hx | hx | hx
            · cases hx
            · rw [List.length_cons] at hx; omega
            · rw [ha] at hx; cases hx
            · simpa using hx
          · cases h
        obtain ⟨rfl, hs48⟩ := hh
        have hs3 : (s.toList == [48]) = false := by rw [hs2]; simpa using hs48
        clear hDt h hDl hs2
        go_enter Tryz.func78, Tryz.ntmps78
        go_wp2_with (first | (go_at_call 97; refine (CPH.out _).mono ?_; rintro e w' ⟨rfl, rfl⟩) | (go_at_call 98; refine (CT.out _).mono ?_; rintro e w' ⟨T, rfl, hT, hb⟩))
        go_ret2
        exact ⟨rfl, hb⟩
set_option maxHeartbeats 4000000 in
set_option maxRecDepth 100000 in
theorem number_some (s : ByteArray) (n : Int) (W : World) (hz : s.size ≤ 4611686018427387904) (h : num s.data.toList = some n) :
    Calls Tryz.prog 78 #[.string s] W fun e W' => e = .returned (.tuple #[.int .i64 n, .bool true]) ∧ Below W.heap.size W W' := by
  have hat := atoi_num h
  have CA := Lib.hid (fun W => Tryz.strconv_Atoi s n (by have : s.data.toList.length = s.size := rfl; omega) hat.1 W)
  clear hat
  have CP := fun W => Tryz.strings_TrimPrefix s ⟨#[45]⟩ W
  obtain ⟨D, hD⟩ : ∃ D : ByteArray, (⟨(Lib.trimPrefix s.data.toList [45]).toArray⟩ : ByteArray) = D := ⟨_, rfl⟩
  have hDl : D.data.toList = unsigned s.data.toList := by rw [← hD, ← prefix_eq]
  have hDt : D.toList = unsigned s.data.toList := (ByteArray.toList_eq D).trans hDl
  have hDz : D.size = (unsigned s.data.toList).length := by rw [← hDl]; rfl
  have CP' : ∀ W, Calls Tryz.prog 97 #[.string s, .string ⟨#[45]⟩] W fun e W' => e = .returned (.string D) ∧ W' = W := by rw [← hD]; exact CP
  have hle : (unsigned s.data.toList).length ≤ s.size := by
    unfold unsigned
    have : s.data.toList.length = s.size := rfl
    split
    · rw [List.length_tail]; omega
    · omega
  have CPH := Lib.hid CP'
  have CT := Lib.hid (fun W => trimD_calls D W (by omega))
  clear CP CP' hD
  rw [num_def] at h
  rw [hDl] at CT
  have hs2 : s.toList = s.data.toList := ByteArray.toList_eq s
  split at h
  · cases h
  · rename_i hh
    simp only [not_or, Bool.not_eq_false] at hh
    obtain ⟨h1, h2, h3, h4⟩ := hh
    clear h
    rw [h3] at CT
    obtain ⟨d, hd⟩ : ∃ d, unsigned s.data.toList = d := ⟨_, rfl⟩
    rw [hd] at hDt hDz hDl h1 h2 h4
    cases d with
    | nil => exact absurd rfl h1
    | cons c t =>
      have he : D.toList.isEmpty = false := by rw [hDt]; rfl
      rw [List.length_cons] at hDz h2
      have h0 : 0 < D.size := by omega
      have hb0 : D[0]'h0 = c := by
        have : D.data.toList[0]? = some c := by rw [hDl]; rfl
        have h3 : D.data.toList[0]? = some (D[0]'h0) := by rw [List.getElem?_eq_getElem (by rw [Array.length_toList]; exact h0)]; rfl
        rw [h3] at this
        exact Option.some.inj this
      have d6 : decide ((6 : Int) < (t.length : Int) + 1) = false := by simp; omega
      by_cases hc : c = 48
      · subst hc
        have hs3 : (s.toList == [48]) = true := by rw [hs2]; simpa using h4
        clear hDt hDl h1 h4 h3 hd hs2
        go_enter Tryz.func78, Tryz.ntmps78
        go_wp2_with (first | (go_at_call 97; refine (CPH.out _).mono ?_; rintro e w' ⟨rfl, rfl⟩) | (go_at_call 98; refine (CT.out _).mono ?_; rintro e w' ⟨T, rfl, hT, hb⟩) | (go_at_call 99; refine (CA.out _).mono ?_; rintro e w2 ⟨rfl, t2, rfl⟩))
        go_ret2
        exact ⟨rfl, hb.trans ((Lib.bytesWorld_below _ _ _).mono hb.size)⟩
      · have hc2 : ((c.toNat : Int) == 48) = false := u8_ne (y := 48) hc
        clear hDt hDl h1 h4 h3 hd hs2
        go_enter Tryz.func78, Tryz.ntmps78
        go_wp2_with (first | (go_at_call 97; refine (CPH.out _).mono ?_; rintro e w' ⟨rfl, rfl⟩) | (go_at_call 98; refine (CT.out _).mono ?_; rintro e w' ⟨T, rfl, hT, hb⟩) | (go_at_call 99; refine (CA.out _).mono ?_; rintro e w2 ⟨rfl, t2, rfl⟩))
        go_ret2
        exact ⟨rfl, hb.trans ((Lib.bytesWorld_below _ _ _).mono hb.size)⟩
end Go.Proofs.YtoefnmhmiphilaaGreatDoor.Tp

namespace Go.Proofs.YtoefnmhmiphilaaGreatDoor.Tp
open Go Go.RowKit Go.Proofs.YtoefnmhmiphilaaGreatDoorW.PrintWords
section
variable {W : World} {g base : Nat} {s : ByteArray} {p : Nat} {o : List Nd} {c a : Int} {v : Value}
def Res (X : Nat → Prop) (g base : Nat) (s : ByteArray) (c a : Int) (W : World) (v : Value) (o : List Nd) (x : R (List Nd)) (r : Ending) (W' : World) : Prop :=
  match x with
  | .ok (o', r1) => ∃ v', r = .returned (.bool true) ∧ Sc W' g base s (s.size - r1.length) (o ++ o') c a v' ∧ Stp X g W v W' v'
  | .error e => ∃ q o2 v', r = .returned (.bool false) ∧ Sc W' g base s q o2 e.1 ((s.size : Int) - e.2) v' ∧ Stp X g W v W' v'
theorem Res.mk_ok {X : Nat → Prop} {W' W0 : World} {v' v0 : Value} {o' : List Nd} {r1 : List UInt8} {x : R (List Nd)} (hx : x = .ok (o', r1)) (h : Sc W' g base s (s.size - r1.length) (o ++ o') c a v') (ht : Stp X g W0 v0 W' v') : Res X g base s c a W0 v0 o x (.returned (.bool true)) W' := by
  subst hx; exact ⟨v', rfl, h, ht⟩
theorem Res.mk_err {X : Nat → Prop} {W' W0 : World} {v' v0 : Value} {o2 : List Nd} {q : Nat} {e : Int × Nat} {x : R (List Nd)} (hx : x = .error e) (h : Sc W' g base s q o2 e.1 ((s.size : Int) - e.2) v') (ht : Stp X g W0 v0 W' v') : Res X g base s c a W0 v0 o x (.returned (.bool false)) W' := by
  subst hx; exact ⟨q, o2, v', rfl, h, ht⟩
set_option maxHeartbeats 4000000 in
set_option maxRecDepth 100000 in
theorem word_calls (h : Sc W g base s p o c a v) (X : Nat → Prop) (hz : s.size ≤ 4611686018427387904) (hl : o.length ≤ 4294967296) :
    Calls Tryz.prog 57 #[.pointer (some ⟨g, 0, none⟩)] W (Res X g base s c a W v o (word (rest s p))) := by
  obtain ⟨c0, c1, c2, c3, c4⟩ := h.reads
  have hp := h.le
  have hrl := rest_len s p
  have hes := (rest_suffix (c := (rest s p).takeWhile small) (x := (rest s p).dropWhile small) hp (List.takeWhile_append_dropWhile).symm).2
  have CS := Lib.hid (span_small h X hz)
  have HL := Lib.hid hl
  clear h hl
  obtain ⟨w, hw⟩ : ∃ w, (rest s p).takeWhile small = w := ⟨_, rfl⟩
  obtain ⟨T, hT⟩ : ∃ T : ByteArray, (⟨w.toArray⟩ : ByteArray) = T := ⟨_, rfl⟩
  have hTl : T.toList = w := (ByteArray.toList_eq T).trans (by rw [← hT])
  rw [hw, hT] at CS
  rw [hw] at hes
  have HE := Lib.hid hes
  have hrest : ((s.size : Int) - ((rest s p).length : Nat)) = (p : Int) := by rw [hrl]; omega
  have HR := Lib.hid hrest
  clear hes hT hrest hrl
  by_cases h1 : w = [110, 117, 108, 108]
  · have t1 : (T.toList == [110, 117, 108, 108]) = true := by rw [hTl, h1]; rfl
    have hx : word (rest s p) = .ok ([nd 1 0 0], (rest s p).dropWhile small) := by unfold word; simp only [hw, if_pos h1]
    have HX := Lib.hid hx
    clear hTl h1 hw hx
    go_enter Tryz.func57, Tryz.ntmps57
    go_wp2_with (first | (go_at_call 77; refine CS.out.mono ?_; rintro e W1 ⟨rfl, hS, hT⟩; have S1 := Lib.hid hS; clear hS) | (go_at_call 61; refine (put_calls S1.out X _ _ _ _ HL.out).mono ?_; rintro e W2 ⟨v2, rfl, hS2, hT2⟩; have S2 := Lib.hid hS2; clear hS2))
    go_ret
    exact Res.mk_ok HX.out (by rw [HE.out]; exact S2.out) (hT.trans hT2)
  · have t1 : (T.toList == [110, 117, 108, 108]) = false := by rw [hTl]; simpa using h1
    by_cases h2 : w = [116, 114, 117, 101]
    · have t2 : (T.toList == [116, 114, 117, 101]) = true := by rw [hTl, h2]; rfl
      have hx : word (rest s p) = .ok ([nd 2 1 0], (rest s p).dropWhile small) := by unfold word; simp only [hw, if_neg h1, if_pos h2]
      have HX := Lib.hid hx
      clear hTl h1 h2 hw hx
      go_enter Tryz.func57, Tryz.ntmps57
      go_wp2_with (first | (go_at_call 77; refine CS.out.mono ?_; rintro e W1 ⟨rfl, hS, hT⟩; have S1 := Lib.hid hS; clear hS) | (go_at_call 61; refine (put_calls S1.out X _ _ _ _ HL.out).mono ?_; rintro e W2 ⟨v2, rfl, hS2, hT2⟩; have S2 := Lib.hid hS2; clear hS2))
      go_ret
      exact Res.mk_ok HX.out (by rw [HE.out]; exact S2.out) (hT.trans hT2)
    · have t2 : (T.toList == [116, 114, 117, 101]) = false := by rw [hTl]; simpa using h2
      by_cases h3 : w = [102, 97, 108, 115, 101]
      · have t3 : (T.toList == [102, 97, 108, 115, 101]) = true := by rw [hTl, h3]; rfl
        have hx : word (rest s p) = .ok ([nd 2 0 0], (rest s p).dropWhile small) := by unfold word; simp only [hw, if_neg h1, if_neg h2, if_pos h3]
        have HX := Lib.hid hx
        clear hTl h1 h2 h3 hw hx
        go_enter Tryz.func57, Tryz.ntmps57
        go_wp2_with (first | (go_at_call 77; refine CS.out.mono ?_; rintro e W1 ⟨rfl, hS, hT⟩; have S1 := Lib.hid hS; clear hS) | (go_at_call 61; refine (put_calls S1.out X _ _ _ _ HL.out).mono ?_; rintro e W2 ⟨v2, rfl, hS2, hT2⟩; have S2 := Lib.hid hS2; clear hS2))
        go_ret
        exact Res.mk_ok HX.out (by rw [HE.out]; exact S2.out) (hT.trans hT2)
      · have t3 : (T.toList == [102, 97, 108, 115, 101]) = false := by rw [hTl]; simpa using h3
        have hx : word (rest s p) = .error (10, (rest s p).length) := by unfold word; simp only [hw, if_neg h1, if_neg h2, if_neg h3]
        have HX := Lib.hid hx
        clear hTl h1 h2 h3 hw hx
        go_enter Tryz.func57, Tryz.ntmps57
        go_wp2_with (first | (go_at_call 77; refine CS.out.mono ?_; rintro e W1 ⟨rfl, hS, hT⟩; have S1 := Lib.hid hS; clear hS) | (go_at_call 55; refine (stop_calls S1.out X _ _).mono ?_; rintro e W2 ⟨rfl, hS2, hT2⟩; have S2 := Lib.hid hS2; clear hS2))
        go_ret
        exact Res.mk_err HX.out (by rw [HR.out]; exact S2.out) (hT.trans hT2)
set_option maxHeartbeats 4000000 in
set_option maxRecDepth 100000 in
theorem number_calls (h : Sc W g base s p o c a v) (X : Nat → Prop) (hz : s.size ≤ 4611686018427387904) (hl : o.length ≤ 4294967296) (b : UInt8) (t : List UInt8) (hr : rest s p = b :: t) :
    Calls Tryz.prog 59 #[.pointer (some ⟨g, 0, none⟩)] W (Res X g base s c a W v o (number (rest s p))) := by
  obtain ⟨c0, c1, c2, c3, c4⟩ := h.reads
  have f1 := h.frz 1
  have hp := h.le
  have hlt := rest_lt hr
  have hrt := (rest_get hr hlt).2
  have hrl := rest_len s p
  have H := Lib.hid h
  have HL := Lib.hid hl
  have hS0 := h.at_ (p + 1) (by omega)
  have CS := Lib.hid (span_digit hS0 X hz)
  rw [hrt] at CS
  have hes := (rest_suffix (c := b :: t.takeWhile digit) (x := t.dropWhile digit) hp (by rw [hr, List.cons_append, List.takeWhile_append_dropWhile])).2
  obtain ⟨w, hw⟩ : ∃ w, t.takeWhile digit = w := ⟨_, rfl⟩
  rw [hw] at CS hes
  rw [List.length_cons] at hes
  have hql : p + 1 + w.length ≤ s.size := by omega
  have hx : (s.extract p (p + 1 + w.length)).data.toList = b :: w := by
    have e4 : s.data.toList.drop p = (b :: w) ++ t.dropWhile digit := by
      have : rest s p = _ := hr
      rw [show s.data.toList.drop p = rest s p from rfl, hr, ← hw, List.cons_append, List.takeWhile_append_dropWhile]
    have e5 : p + 1 + w.length - p = (b :: w).length := by simp; omega
    simp only [ByteArray.data_extract, Array.toList_extract, List.extract_eq_take_drop]
    rw [e4, e5, List.take_left]
  have hDz : (s.extract p (p + 1 + w.length)).size ≤ 4611686018427387904 := by rw [ByteArray.size_extract]; omega
  have hrest : ((s.size : Int) - ((rest s p).length : Nat)) = (p : Int) := by rw [hrl]; omega
  have HR := Lib.hid hrest
  have HE := Lib.hid (show s.size - (t.dropWhile digit).length = p + 1 + w.length by omega)
  have hpq : (p : Int) ≤ ((p + 1 + w.length : Nat) : Int) := by omega
  have hnum : number (rest s p) = match num (b :: w) with | some n => .ok ([nd 3 n 0], t.dropWhile digit) | none => .error (10, (rest s p).length) := by
    rw [hr]
    simp only [number, hw, List.length_cons]
    cases num (b :: w) <;> rfl
  obtain ⟨q, hq⟩ : ∃ q, p + 1 + w.length = q := ⟨_, rfl⟩
  rw [hq] at HE CS hpq hql hx hDz
  cases hn : num (b :: w) with
  | some n =>
    rw [hn] at hnum
    have HX := Lib.hid hnum
    have CN := Lib.hid (fun W => number_some (s.extract p q) n W hDz (by rw [hx]; exact hn))
    clear h hl hS0 hes hrest hrl hn hnum hx hDz hr hrt hw hq
    go_enter Tryz.func59, Tryz.ntmps59
    go_wp2_with (first | (go_at_call 77; refine CS.out.mono ?_; rintro e W1 ⟨rfl, hS, hT⟩; have S1 := Lib.hid hS; obtain ⟨d0, d1, d2, d3, d4⟩ := hS.reads; clear hS))
    go_region_held3 (fun W' => W'.cell? ⟨g, 0, none⟩ = some (.string s) ∧ W'.cell? ⟨g, 1, none⟩ = some (.int .i64 (q : Int)) ∧ Hid (Sc W' g base s q o c a v) ∧ Hid (Stp X g W v W' v)) (first | (have hq : Sc W1.drew g base s q o c a v := S1.out.drew; have hs : Stp X g W v W1.drew v := (((Stp.refl X g W v).set _).trans hT).drew; with_reducible exact ⟨hq.reads.1, hq.reads.2.1, Lib.hid hq, Lib.hid hs⟩) | (with_reducible assumption) | (go_split_ands; have hq : Sc w9 g base s q o c a v := Sc.below (Hid.out (by with_reducible assumption)) hb; have hs : Stp X g W v w9 v := Stp.trans (v1 := v) (Hid.out (by with_reducible assumption)) ⟨Kp.of_below hb, fun _ h => .inl h⟩; exact ⟨hq.reads.1, hq.reads.2.1, Lib.hid hq, Lib.hid hs⟩)) (first | (go_at_call 78; refine (CN.out _).mono ?_; rintro e w9 ⟨rfl, hb⟩))
    go_split_ands
    have S2 : Hid (Sc w9 g base s q o c a v) := by assumption
    have T2 : Hid (Stp X g W v w9 v) := by assumption
    go_wp2_with (first | (go_at_call 61; refine (put_calls S2.out X _ _ _ _ HL.out).mono ?_; rintro e W2 ⟨v2, rfl, hS2, hT2⟩; have S3 := Lib.hid hS2; clear hS2))
    go_ret
    exact Res.mk_ok HX.out (by rw [HE.out]; exact S3.out) (T2.out.trans hT2)
  | none =>
    rw [hn] at hnum
    have HX := Lib.hid hnum
    have CN := Lib.hid (fun W => number_none (s.extract p q) W hDz (by rw [hx]; exact hn))
    clear h hl hS0 hes hrest hrl hn hnum hx hDz hr hrt hw hq
    go_enter Tryz.func59, Tryz.ntmps59
    go_wp2_with (first | (go_at_call 77; refine CS.out.mono ?_; rintro e W1 ⟨rfl, hS, hT⟩; have S1 := Lib.hid hS; obtain ⟨d0, d1, d2, d3, d4⟩ := hS.reads; clear hS))
    go_region_held3 (fun W' => W'.cell? ⟨g, 0, none⟩ = some (.string s) ∧ W'.cell? ⟨g, 1, none⟩ = some (.int .i64 (q : Int)) ∧ Hid (Sc W' g base s q o c a v) ∧ Hid (Stp X g W v W' v)) (first | (have hq : Sc W1.drew g base s q o c a v := S1.out.drew; have hs : Stp X g W v W1.drew v := (((Stp.refl X g W v).set _).trans hT).drew; with_reducible exact ⟨hq.reads.1, hq.reads.2.1, Lib.hid hq, Lib.hid hs⟩) | (with_reducible assumption) | (go_split_ands; have hq : Sc w9 g base s q o c a v := Sc.below (Hid.out (by with_reducible assumption)) hb; have hs : Stp X g W v w9 v := Stp.trans (v1 := v) (Hid.out (by with_reducible assumption)) ⟨Kp.of_below hb, fun _ h => .inl h⟩; exact ⟨hq.reads.1, hq.reads.2.1, Lib.hid hq, Lib.hid hs⟩)) (first | (go_at_call 78; refine (CN.out _).mono ?_; rintro e w9 ⟨rfl, hb⟩))
    go_split_ands
    have S2 : Hid (Sc w9 g base s q o c a v) := by assumption
    have T2 : Hid (Stp X g W v w9 v) := by assumption
    go_wp2_with (first | (go_at_call 55; refine (stop_calls S2.out X _ _).mono ?_; rintro e W2 ⟨rfl, hS2, hT2⟩; have S3 := Lib.hid hS2; clear hS2))
    go_ret
    exact Res.mk_err HX.out (by rw [HR.out]; exact S3.out) (T2.out.trans hT2)
end
end Go.Proofs.YtoefnmhmiphilaaGreatDoor.Tp

namespace Go.Proofs.YtoefnmhmiphilaaGreatDoor.Bld
open Go Go.Shelf Go.Proofs Go.RowKit
def ren : Go.Shelf.Ren := ⟨fun | 166 => 52 | 167 => 80 | 240 => 76 | 276 => 96 | n => n, fun | 0 => 0 | 3 => 3 | 4 => 4 | 5 => 5 | 9 => 9 | 20 => 20 | 37 => 43 | 70 => 53 | 72 => 55 | 75 => 83 | 80 => 58 | 164 => 125 | n => n, fun | n => n⟩
theorem lays166 : Go.Proofs.Lays.n166 Tryz.prog ren := {
  mixed := by kernel_rfl
  f166 := Tryz.func52.trans (congrArg some (by kernel_rfl))
  f240 := Tryz.func76.trans (congrArg some (by kernel_rfl))
  f276 := Tryz.func96.trans (congrArg some (by kernel_rfl))
  t0 := Tryz.underlying0
  a0 := Tryz.isAgg0
  z0 := Tryz.sizeOf0
  v0 := Tryz.zeroValue0
  t3 := Tryz.underlying3
  a3 := Tryz.isAgg3
  z3 := Tryz.sizeOf3
  v3 := Tryz.zeroValue3
  t4 := Tryz.underlying4
  a4 := Tryz.isAgg4
  z4 := Tryz.sizeOf4
  v4 := Tryz.zeroValue4
  t9 := Tryz.underlying9
  a9 := Tryz.isAgg9
  z9 := Tryz.sizeOf9
  v9 := Tryz.zeroValue9
  t20 := Tryz.underlying20
  a20 := Tryz.isAgg20
  z20 := Tryz.sizeOf20
  v20 := Tryz.zeroValue20
  t37 := Tryz.underlying43
  a37 := Tryz.isAgg43
  z37 := Tryz.sizeOf43
  v37 := Tryz.zeroValue43
  t70 := Tryz.underlying53
  a70 := Tryz.isAgg53
  z70 := Tryz.sizeOf53
  v70 := Tryz.zeroValue53
  t72 := Tryz.underlying55
  a72 := Tryz.isAgg55
  z72 := Tryz.sizeOf55
  v72 := Tryz.zeroValue55
  t75 := Tryz.underlying83
  a75 := Tryz.isAgg83
  z75 := Tryz.sizeOf83
  v75 := Tryz.zeroValue83
  t164 := Tryz.underlying125
  a164 := Tryz.isAgg125
  z164 := Tryz.sizeOf125
  v164 := Tryz.zeroValue125 }
theorem lays167 : Go.Proofs.Lays.n167 Tryz.prog ren :=
  { lays166 with f167 := Tryz.func80.trans (congrArg some (by kernel_rfl)), t5 := Tryz.underlying5, a5 := Tryz.isAgg5, z5 := Tryz.sizeOf5, v5 := Tryz.zeroValue5 }
theorem extra : Builder.Extra Tryz.prog ren := {
  sizeBuilder := by kernel_rfl
  liesBuilder := by kernel_rfl
  t5 := Tryz.underlying5
  a5 := Tryz.isAgg5
  z5 := Tryz.sizeOf5
  v5 := Tryz.zeroValue5
  infoByte := by kernel_rfl
  cellsByte := by kernel_rfl
  sizeByte := by kernel_rfl
  neB5 := by decide }
theorem writeByte (B b : Nat) (bs : List Value) (c : Int) (w : World) (h : Lib.IsBuilder 55 5 B b bs w) (hlen : bs.length + 1 ≤ 140737488355328) (hBw : B ≤ w.heap.size) :
    Calls Tryz.prog 80 #[.pointer (some ⟨b, 0, none⟩), .int .u8 c] w fun e w' => e = .returned .nilIface ∧ (Lib.BuilderAt 55 5 B b (.pointer (some ⟨b, 0, none⟩)) (bs ++ [.int .u8 c]) w' ∧ Below B w w') := Any.Builder_WriteByte lays167 extra B b bs c w h hlen hBw
theorem writeString (B b : Nat) (bs : List Value) (s : ByteArray) (w : World) (h : Lib.IsBuilder 55 5 B b bs w) (hlen : bs.length + s.size ≤ 140737488355328) (hBw : B ≤ w.heap.size) :
    Calls Tryz.prog 52 #[.pointer (some ⟨b, 0, none⟩), .string s] w fun e w' => e = .returned (.tuple #[.int .i64 s.size, .nilIface]) ∧ (Lib.BuilderAt 55 5 B b (.pointer (some ⟨b, 0, none⟩)) (bs ++ Lib.strCells s) w' ∧ Below B w w') := Any.Builder_WriteString lays166 extra B b bs s w h hlen hBw
end Go.Proofs.YtoefnmhmiphilaaGreatDoor.Bld

namespace Go.Proofs.YtoefnmhmiphilaaGreatDoor.Tp
open Go Go.RowKit Go.Proofs.YtoefnmhmiphilaaGreatDoorW.PrintWords
section
variable {P : Program} {a : Act} {w : World} {Q : Exit → Act → World → Prop} {l : Nat} {J : Act → World → Prop}
theorem wp_scope_forward {c rest : Code} (l : Nat) (hf : findLabel c l = some rest) (first : c.wp P (Exit.jump l (fun a' w' => rest.wp P (Exit.noGoto Q) a' w') Q) a w) : (Code.scope c).wp P Q a w :=
  wp_scope_jumps l _ (fun _ _ => 0) hf first (fun a w h => Code.wp_mono (fun e a' w' he => by cases e <;> first | exact he | exact (he : False).elim) h)
theorem jump_normal : Exit.jump l J Q .normal a w = Q .normal a w := rfl
theorem jump_exit (id : Nat) : Exit.jump l J Q (.exit id) a w = Q (.exit id) a w := rfl
theorem jump_ret : Exit.jump l J Q .ret a w = Q .ret a w := rfl
theorem jump_panic (ch : List PanicEntry) : Exit.jump l J Q (.panic ch) a w = Q (.panic ch) a w := rfl
theorem jump_goto : Exit.jump l J Q (.goto l) a w = J a w := propext ⟨fun h => h.2, fun h => ⟨rfl, h⟩⟩
end
section
variable {W : World} {g base : Nat} {s : ByteArray} {p : Nat} {o : List Nd} {c a : Int} {v : Value}
theorem Sc.belowB (h : Sc W g base s p o c a v) {B : Nat} {W' : World} (hb : Below B W W') (hg : g < B) (hv : ∀ k, v.ownBlock = some k → k < B) : Sc W' g base s p o c a v :=
  ⟨(hb.block _ hg).trans h.blk, own_same h.out (fun k hk => hb.block k (hv k hk)), h.le, h.ge⟩
theorem Sc.own_lt (h : Sc W g base s p o c a v) : ∀ k, v.ownBlock = some k → k < W.heap.size := by
  intro k hk
  rcases h.out.2 with ⟨rfl, _⟩ | ⟨b, cap, cur, rfl, _, hh, _⟩
  · cases hk
  · simp only [Value.ownBlock, Option.some.injEq] at hk; subst hk; exact blk_lt hh
theorem Stp.belowB {X : Nat → Prop} {W0 W1 W2 : World} {v0 v1 : Value} (h : Stp X g W0 v0 W1 v1) {B : Nat} (hb : Below B W1 W2) (hB : W0.heap.size ≤ B) : Stp X g W0 v0 W2 v1 :=
  ⟨h.kp.trans (T := fun i => B ≤ i) ⟨hb.os, hb.tape, hb.output, hb.size, fun i hi hn => hb.block i (by omega)⟩ (fun i hi ht => by omega), h.own⟩
theorem isB_set {B b : Nat} {bs : List Value} (h : Lib.IsBuilder 55 5 B b bs W) {g t : Nat} {cs : Array Value} (hg : W.heap[g]? = some (.cells cs t (0, 0))) (ht : 5 ≠ t) (hb : b ≠ g) (i : Nat) (u : Value) :
    Lib.IsBuilder 55 5 B b bs (W.setCell ⟨g, i, none⟩ u) := by
  have key : ∀ pv, Lib.BuilderAt 55 5 B b pv bs W → Lib.BuilderAt 55 5 B b pv bs (W.setCell ⟨g, i, none⟩ u) := by
    rintro pv ⟨h1, v', h2, h3, h4⟩
    exact ⟨h1, v', blk_far h2 hb u, own_setCell h3 (own_ne h3 hg ht) u, h4⟩
  rcases h with h | h
  · exact .inl (key _ h)
  · exact .inr (key _ h)
theorem isB_drewN {B b : Nat} {bs : List Value} (h : Lib.IsBuilder 55 5 B b bs W) (n : Nat) : Lib.IsBuilder 55 5 B b bs (W.drewN n) := h
theorem bytes_snoc (l : List UInt8) (x : UInt8) : Lib.byteCells l ++ [.int .u8 (x.toNat : Int)] = Lib.byteCells (l ++ [x]) := by simp [Lib.byteCells]
def QRes (X : Nat → Prop) (g base : Nat) (s : ByteArray) (c a : Int) (W : World) (v : Value) (o : List Nd) (x : R (List UInt8)) (r : Ending) (W' : World) : Prop :=
  match x with
  | .ok (acc, r1) => r = .returned (.tuple #[.string ⟨acc.toArray⟩, .bool true]) ∧ Sc W' g base s (s.size - r1.length) o c a v ∧ Stp X g W v W' v
  | .error e => ∃ q, r = .returned (.tuple #[.string ⟨#[]⟩, .bool false]) ∧ Sc W' g base s q o e.1 ((s.size : Int) - e.2) v ∧ Stp X g W v W' v
theorem QRes.mk_ok {X : Nat → Prop} {W' W0 : World} {v0 : Value} {acc r1 : List UInt8} {x : R (List UInt8)} (hx : x = .ok (acc, r1)) {T : ByteArray} (hT : T = ⟨acc.toArray⟩) (h : Sc W' g base s (s.size - r1.length) o c a v0) (ht : Stp X g W0 v0 W' v0) : QRes X g base s c a W0 v0 o x (.returned (.tuple #[.string T, .bool true])) W' := by
  subst hx; subst hT; exact ⟨rfl, h, ht⟩
theorem QRes.mk_err {X : Nat → Prop} {W' W0 : World} {v0 : Value} {q : Nat} {e : Int × Nat} {x : R (List UInt8)} (hx : x = .error e) (h : Sc W' g base s q o e.1 ((s.size : Int) - e.2) v0) (ht : Stp X g W0 v0 W' v0) : QRes X g base s c a W0 v0 o x (.returned (.tuple #[.string ⟨#[]⟩, .bool false])) W' := by
  subst hx; exact ⟨q, rfl, h, ht⟩
attribute [local go_sem] jump_normal jump_exit jump_ret jump_panic jump_goto
set_option maxHeartbeats 8000000 in
set_option maxRecDepth 100000 in
theorem quoted_calls (h : Sc W g base s p o c a v) (X : Nat → Prop) (hz : s.size ≤ 70368744177664) :
    Calls Tryz.prog 60 #[.pointer (some ⟨g, 0, none⟩)] W (QRes X g base s c a W v o (quoted (rest s p))) := by
  have H := Lib.hid h
  have hp := h.le
  cases ht : takeB 34 (rest s p) with
  | error x =>
    have CT := Lib.hid (take_err h X (by omega) 34 (by decide) x ht)
    have hx : quoted (rest s p) = .error x := by unfold quoted; rw [ht]
    have HX := Lib.hid hx
    clear h ht hx
    go_enter Tryz.func60, Tryz.ntmps60
    go_wp2_with (go_at_call 79; refine CT.out.mono ?_; rintro e W1 ⟨rfl, ⟨q, hS⟩, hT⟩; have S1 := Lib.hid hS; clear hS)
    go_ret2
    exact QRes.mk_err HX.out S1.out hT
  | ok t =>
    have CT := Lib.hid (take_ok h X (by omega) 34 t ht)
    have hx : quoted (rest s p) = str t [] := by unfold quoted; rw [ht]
    obtain ⟨cc, ecc, _⟩ := takeB_ext ht
    have hrt : rest s (s.size - t.length) = t := (rest_suffix (c := cc ++ [34]) hp (by rw [ecc]; simp)).1
    have HRT := Lib.hid hrt
    have HX := Lib.hid hx
    clear h ht hx ecc hrt
    go_enter Tryz.func60, Tryz.ntmps60
    go_wp2_with (go_at_call 79; refine CT.out.mono ?_; rintro e W1 ⟨rfl, hS, hT⟩; have S1 := Lib.hid hS; have T1 := Lib.hid hT; clear hS hT)
    obtain ⟨b, hb⟩ : ∃ b, W1.heap.size = b := ⟨_, rfl⟩
    have hgb : g < b := by rw [← hb]; exact blk_lt S1.out.blk
    have hvb := Lib.hid (show ∀ k, v.ownBlock = some k → k < b by rw [← hb]; exact S1.out.own_lt)
    have hWb : W.heap.size ≤ b := by rw [← hb]; exact T1.out.kp.size
    have HB0 : Hid (Lib.IsBuilder 55 5 b b (Lib.byteCells []) (W1.alloc (.cells #[.pointer none, .slice none 0 0] 55)) ∧ b ≤ (W1.alloc (.cells #[.pointer none, .slice none 0 0] 55)).heap.size) := by
      refine Lib.hid ⟨.inl ⟨Nat.le_refl _, .slice none 0 0, ?_, own_nil _ _ _ _, by simp [Value.ownBlock]⟩, by simp; omega⟩
      rw [← hb]; exact blk_new W1 _
    rw [hb]
    go_loopg [] (s.size - (s.size - t.length)) (fun k W' => ∃ (q : Nat) (acc : List UInt8), Hid (Sc W' g base s q o c a v) ∧ Hid (Stp X g W v W' v) ∧ Hid (Lib.IsBuilder 55 5 b b (Lib.byteCells acc) W' ∧ b ≤ W'.heap.size) ∧ Hid (k = s.size - q) ∧ Hid (quoted (rest s p) = str (rest s q) acc) ∧ Hid (acc.length ≤ q))
    case atStart => exact ⟨_, [], Lib.hid (S1.out.alloc _), Lib.hid (T1.out.alloc _), HB0, Lib.hid rfl, Lib.hid (by rw [HRT.out]; exact HX.out), Lib.hid (Nat.zero_le _)⟩
    case round =>
      obtain ⟨q, acc, HS, HT, HB, HK, HR, HA⟩ := hrel
      obtain ⟨c0, c1, c2, c3, c4⟩ := HS.out.reads
      have f1 := HS.out.frz 1
      have hq := HS.out.le
      cases hc : rest s q with
      | nil =>
        obtain rfl : q = s.size := (rest_nil hq).1 hc
        have d1 : decide ((s.size : Int) < (s.size : Int)) = false := by simp
        have hr := HR.out
        rw [hc] at hr
        unfold str at hr
        have HX2 := Lib.hid hr
        have ho : odd (rest s s.size) = (11, 0) := by rw [hc]; rfl
        have HO := Lib.hid ho
        clear hr ho hc
        go_wp2_with fail
        go_quiet (fail)
        go_wp2_with (first | (go_at_call 39; refine (odd_calls (HS.out.drewN _) X).mono ?_; rintro e W5 ⟨rfl, hS5, hT5⟩; have S5 := Lib.hid hS5; clear hS5))
        go_ret2
        have h5 := S5.out
        rw [HO.out] at h5
        exact QRes.mk_err HX2.out h5 ((HT.out.drewN _).trans hT5)
      | cons x t' =>
        have hlt := rest_lt hc
        have hg := rest_get hc hlt
        have hx0 : s[q]'hlt = x := hg.1
        have HN := Lib.hid hg.2
        have hr := HR.out
        have hrl := rest_len s q
        rw [hc] at hr hrl
        rw [List.length_cons] at hrl
        have HC := Lib.hid hc
        unfold str at hr
        have d1 : decide ((q : Int) < (s.size : Int)) = true := by simp; omega
        clear hg hc
        by_cases h34 : x = 34
        · rw [if_pos h34] at hr
          subst h34
          have HX2 := Lib.hid hr
          have hle : s.size - t'.length = q + 1 := by omega
          have HLE := Lib.hid hle
          clear hr hrl hle
          go_wp2_with fail
          go_quiet (fail)
          go_wp2_with fail
          go_step3
          go_wp2_with fail
          go_quiet (fail)
          go_wp2_with (first | (go_at_call 33; refine (Tryz.Builder_String_any b b acc _ (isB_set (isB_drewN HB.out.1 _) (HS.out.drewN _).blk (by decide) (by omega) _ _) ?hw).mono ?_; (case hw => rw [World.size_setCell]; exact HB.out.2); rintro e W5 ⟨rfl, hb5⟩; have S5 := Lib.hid (((HS.out.drewN _).at_ (q + 1) (by omega)).belowB hb5 hgb hvb.out); have T5 := Lib.hid (((HT.out.drewN _).set _).belowB hb5 hWb); clear hb5))
          rw [Exit.noGoto_ret]
          go_ret2
          exact QRes.mk_ok HX2.out rfl (by rw [HLE.out]; exact S5.out) T5.out
        · have t34 : ((x.toNat : Int) == 34) = false := u8_ne (y := 34) h34
          rw [if_neg h34] at hr
          by_cases h92 : x = 92
          · rw [if_pos h92] at hr
            subst h92
            cases t' with
            | nil =>
              simp only at hr
              have e1 : (q : Int) + 1 = (s.size : Int) := by simp at hrl; omega
              have d2 : ((q : Int) + 1 == (s.size : Int)) = true := by simp; omega
              have HX2 := Lib.hid hr
              clear hr hrl e1
              go_wp2_with fail
              go_quiet (fail)
              go_wp2_with fail
              refine wp_scope_forward 0 rfl ?_
              go_wp2_with fail
              go_quiet (fail)
              go_wp2_with fail
              go_step3
              go_wp2_with fail
              rw [jump_goto]
              show Code.wp _ _ _ _ _
              go_wp2_with fail
              go_quiet (fail)
              go_wp2_with (first | (go_at_call 55; refine (stop_calls (HS.out.drewN _) X _ _).mono ?_; rintro e W5 ⟨rfl, hS5, hT5⟩; have S5 := Lib.hid hS5; clear hS5))
              rw [Exit.noGoto_ret]
              go_ret2
              exact QRes.mk_err HX2.out (by simpa using S5.out) ((HT.out.drewN _).trans hT5)
            | cons y u =>
              simp only at hr
              simp only [List.length_cons] at hrl
              have hlt2 : q + 1 < s.size := by omega
              have hgy := rest_get HN.out hlt2
              have hy0 : s[q + 1]'hlt2 = y := hgy.1
              have HN2 := Lib.hid hgy.2
              have d2 : ((q : Int) + 1 == (s.size : Int)) = false := by simp; omega
              have hq1 : (q : Int) + 1 < (s.size : Int) := by omega
              have hq2 : ((q : Int) + 1).toNat = q + 1 := by omega
              clear hgy
              by_cases hy : y = 34 ∨ y = 92
              · rw [if_pos hy] at hr
                have HRN := Lib.hid hr
                have HLN := Lib.hid hrl
                rcases hy with rfl | rfl
                · clear hr hrl
                  go_wp2_with fail
                  go_quiet (fail)
                  go_wp2_with fail
                  refine wp_scope_forward 0 rfl ?_
                  go_wp2_with fail
                  go_quiet (fail)
                  go_wp2_with fail
                  go_step3
                  go_wp2_with fail
                  rw [jump_goto]
                  show Code.wp _ _ _ _ _
                  go_wp2_with fail
                  go_quiet (fail)
                  go_wp2_with fail
                  go_quiet (fail)
                  go_wp2_with (first | (go_at_call 80; refine (Bld.writeByte b b (Lib.byteCells acc) _ _ (isB_drewN HB.out.1 _) ?hl ?hw).mono ?_; (case hl => rw [Lib.byteCells_length]; have := HA.out; omega); (case hw => exact HB.out.2); rintro e W5 ⟨rfl, hb5, hw5⟩; have S5 := Lib.hid ((HS.out.drewN _).belowB hw5 hgb hvb.out); have T5 := Lib.hid ((HT.out.drewN _).belowB hw5 hWb); have B5 : Hid (Lib.IsBuilder 55 5 b b (Lib.byteCells (acc ++ [34])) W5) := Lib.hid (.inr (by rw [← bytes_snoc]; exact hb5)); have Z5 := Lib.hid (Nat.le_trans HB.out.2 hw5.size); obtain ⟨c0, c1, c2, c3, c4⟩ := S5.out.reads; have f1 := S5.out.frz 1; clear hb5 hw5))
                  first | rw [Exit.noGoto_normal] | rw [Exit.noGoto_exit]
                  go_wp2_with fail
                  go_roundg (s.size - (q + 2))
                  case rel => exact ⟨q + 2, acc ++ [34], Lib.hid (S5.out.at_ (q + 2) (by have := HLN.out; omega)), Lib.hid (T5.out.set _), Lib.hid ⟨isB_set B5.out S5.out.blk (by decide) (by omega) _ _, by rw [World.size_setCell]; exact Z5.out⟩, Lib.hid rfl, Lib.hid (by rw [HN2.out]; exact HRN.out), Lib.hid (by have := HA.out; simp; omega)⟩
                  case measure => have := HK.out; omega
                · clear hr hrl
                  go_wp2_with fail
                  go_quiet (fail)
                  go_wp2_with fail
                  refine wp_scope_forward 0 rfl ?_
                  go_wp2_with fail
                  go_quiet (fail)
                  go_wp2_with fail
                  go_step3
                  go_wp2_with fail
                  rw [jump_goto]
                  show Code.wp _ _ _ _ _
                  go_wp2_with fail
                  go_quiet (fail)
                  go_wp2_with fail
                  go_quiet (fail)
                  go_wp2_with (first | (go_at_call 80; refine (Bld.writeByte b b (Lib.byteCells acc) _ _ (isB_drewN HB.out.1 _) ?hl ?hw).mono ?_; (case hl => rw [Lib.byteCells_length]; have := HA.out; omega); (case hw => exact HB.out.2); rintro e W5 ⟨rfl, hb5, hw5⟩; have S5 := Lib.hid ((HS.out.drewN _).belowB hw5 hgb hvb.out); have T5 := Lib.hid ((HT.out.drewN _).belowB hw5 hWb); have B5 : Hid (Lib.IsBuilder 55 5 b b (Lib.byteCells (acc ++ [92])) W5) := Lib.hid (.inr (by rw [← bytes_snoc]; exact hb5)); have Z5 := Lib.hid (Nat.le_trans HB.out.2 hw5.size); obtain ⟨c0, c1, c2, c3, c4⟩ := S5.out.reads; have f1 := S5.out.frz 1; clear hb5 hw5))
                  first | rw [Exit.noGoto_normal] | rw [Exit.noGoto_exit]
                  go_wp2_with fail
                  go_roundg (s.size - (q + 2))
                  case rel => exact ⟨q + 2, acc ++ [92], Lib.hid (S5.out.at_ (q + 2) (by have := HLN.out; omega)), Lib.hid (T5.out.set _), Lib.hid ⟨isB_set B5.out S5.out.blk (by decide) (by omega) _ _, by rw [World.size_setCell]; exact Z5.out⟩, Lib.hid rfl, Lib.hid (by rw [HN2.out]; exact HRN.out), Lib.hid (by have := HA.out; simp; omega)⟩
                  case measure => have := HK.out; omega
              · rw [if_neg hy] at hr
                have hy3 : ¬ y = 34 := fun e => hy (.inl e)
                have hy9 : ¬ y = 92 := fun e => hy (.inr e)
                have ty3 : ((y.toNat : Int) == 34) = false := u8_ne (y := 34) hy3
                have ty9 : ((y.toNat : Int) == 92) = false := u8_ne (y := 92) hy9
                by_cases hn : y = 110
                · rw [if_pos hn] at hr
                  subst hn
                  have HRN := Lib.hid hr
                  have HLN := Lib.hid hrl
                  clear hr hrl hy
                  go_wp2_with fail
                  go_quiet (fail)
                  go_wp2_with fail
                  refine wp_scope_forward 0 rfl ?_
                  go_wp2_with fail
                  go_quiet (fail)
                  go_wp2_with fail
                  go_step3
                  go_wp2_with fail
                  rw [jump_goto]
                  show Code.wp _ _ _ _ _
                  go_wp2_with fail
                  go_quiet (fail)
                  go_wp2_with fail
                  go_quiet (fail)
                  go_wp2_with (first | (go_at_call 80; refine (Bld.writeByte b b (Lib.byteCells acc) _ _ (isB_drewN HB.out.1 _) ?hl ?hw).mono ?_; (case hl => rw [Lib.byteCells_length]; have := HA.out; omega); (case hw => exact HB.out.2); rintro e W5 ⟨rfl, hb5, hw5⟩; have S5 := Lib.hid ((HS.out.drewN _).belowB hw5 hgb hvb.out); have T5 := Lib.hid ((HT.out.drewN _).belowB hw5 hWb); have B5 : Hid (Lib.IsBuilder 55 5 b b (Lib.byteCells (acc ++ [10])) W5) := Lib.hid (.inr (by rw [← bytes_snoc]; exact hb5)); have Z5 := Lib.hid (Nat.le_trans HB.out.2 hw5.size); obtain ⟨c0, c1, c2, c3, c4⟩ := S5.out.reads; have f1 := S5.out.frz 1; clear hb5 hw5))
                  first | rw [Exit.noGoto_normal] | rw [Exit.noGoto_exit]
                  go_wp2_with fail
                  go_roundg (s.size - (q + 2))
                  case rel => exact ⟨q + 2, acc ++ [10], Lib.hid (S5.out.at_ (q + 2) (by have := HLN.out; omega)), Lib.hid (T5.out.set _), Lib.hid ⟨isB_set B5.out S5.out.blk (by decide) (by omega) _ _, by rw [World.size_setCell]; exact Z5.out⟩, Lib.hid rfl, Lib.hid (by rw [HN2.out]; exact HRN.out), Lib.hid (by have := HA.out; simp; omega)⟩
                  case measure => have := HK.out; omega
                · have tyn : ((y.toNat : Int) == 110) = false := u8_ne (y := 110) hn
                  rw [if_neg hn] at hr
                  have HX2 := Lib.hid hr
                  have ho : odd (rest s q) = (10, u.length + 2) := by rw [HC.out]; simp [odd]
                  have HO := Lib.hid ho
                  clear hr hrl hy ho
                  go_wp2_with fail
                  go_quiet (fail)
                  go_wp2_with fail
                  refine wp_scope_forward 0 rfl ?_
                  go_wp2_with fail
                  go_quiet (fail)
                  go_wp2_with fail
                  go_step3
                  go_wp2_with fail
                  rw [jump_goto]
                  show Code.wp _ _ _ _ _
                  go_wp2_with fail
                  go_quiet (fail)
                  go_wp2_with fail
                  go_quiet (fail)
                  go_wp2_with (first | (go_at_call 39; refine (odd_calls (HS.out.drewN _) X).mono ?_; rintro e W5 ⟨rfl, hS5, hT5⟩; have S5 := Lib.hid hS5; clear hS5))
                  rw [Exit.noGoto_ret]
                  go_ret2
                  have h5 := S5.out
                  rw [HO.out] at h5
                  exact QRes.mk_err HX2.out h5 ((HT.out.drewN _).trans hT5)
          · have t92 : ((x.toNat : Int) == 92) = false := u8_ne (y := 92) h92
            rw [if_neg h92] at hr
            by_cases hbad : x.toNat < 32 ∨ 126 < x.toNat
            · rw [if_pos hbad] at hr
              have HX2 := Lib.hid hr
              have ho : odd (rest s q) = (10, t'.length + 1) := by rw [HC.out]; simp [odd]
              have HO := Lib.hid ho
              clear hr hrl ho
              by_cases hb3 : x.toNat < 32
              · have e3 : decide ((x.toNat : Int) < 32) = true := by simp; omega
                clear hbad
                go_wp2_with fail
                go_quiet (fail)
                go_wp2_with fail
                go_step3
                go_wp2_with fail
                go_quiet (fail)
                go_wp2_with (first | (go_at_call 39; refine (odd_calls (HS.out.drewN _) X).mono ?_; rintro e W5 ⟨rfl, hS5, hT5⟩; have S5 := Lib.hid hS5; clear hS5))
                rw [Exit.noGoto_ret]
                go_ret2
                have h5 := S5.out
                rw [HO.out] at h5
                exact QRes.mk_err HX2.out h5 ((HT.out.drewN _).trans hT5)
              · have e3 : decide ((x.toNat : Int) < 32) = false := by simp; omega
                have e4 : decide ((126 : Int) < (x.toNat : Int)) = true := by simp; omega
                clear hbad
                go_wp2_with fail
                go_quiet (fail)
                go_wp2_with fail
                go_step3
                go_wp2_with fail
                go_quiet (fail)
                go_wp2_with (first | (go_at_call 39; refine (odd_calls (HS.out.drewN _) X).mono ?_; rintro e W5 ⟨rfl, hS5, hT5⟩; have S5 := Lib.hid hS5; clear hS5))
                rw [Exit.noGoto_ret]
                go_ret2
                have h5 := S5.out
                rw [HO.out] at h5
                exact QRes.mk_err HX2.out h5 ((HT.out.drewN _).trans hT5)
            · rw [if_neg hbad] at hr
              have e3 : decide ((x.toNat : Int) < 32) = false := by simp; omega
              have e4 : decide ((126 : Int) < (x.toNat : Int)) = false := by simp; omega
              have HRN := Lib.hid hr
              have HLN := Lib.hid (show q + 1 ≤ s.size by omega)
              clear hr hrl hbad
              go_wp2_with fail
              go_quiet (fail)
              go_wp2_with fail
              go_step3
              go_wp2_with fail
              go_quiet (fail)
              go_wp2_with (first | (go_at_call 80; refine (Bld.writeByte b b (Lib.byteCells acc) _ _ (isB_drewN HB.out.1 _) ?hl ?hw).mono ?_; (case hl => rw [Lib.byteCells_length]; have := HA.out; omega); (case hw => exact HB.out.2); rintro e W5 ⟨rfl, hb5, hw5⟩; have S5 := Lib.hid ((HS.out.drewN _).belowB hw5 hgb hvb.out); have T5 := Lib.hid ((HT.out.drewN _).belowB hw5 hWb); have B5 : Hid (Lib.IsBuilder 55 5 b b (Lib.byteCells (acc ++ [x])) W5) := Lib.hid (.inr (by rw [← bytes_snoc]; exact hb5)); have Z5 := Lib.hid (Nat.le_trans HB.out.2 hw5.size); obtain ⟨c0, c1, c2, c3, c4⟩ := S5.out.reads; have f1 := S5.out.frz 1; clear hb5 hw5))
              first | rw [Exit.noGoto_normal] | rw [Exit.noGoto_exit]
              go_wp2_with fail
              go_roundg (s.size - (q + 1))
              case rel => exact ⟨q + 1, acc ++ [x], Lib.hid (S5.out.at_ (q + 1) (by have := HLN.out; omega)), Lib.hid (T5.out.set _), Lib.hid ⟨isB_set B5.out S5.out.blk (by decide) (by omega) _ _, by rw [World.size_setCell]; exact Z5.out⟩, Lib.hid rfl, Lib.hid (by rw [HN.out]; exact HRN.out), Lib.hid (by have := HA.out; simp; omega)⟩
              case measure => have := HK.out; omega
end
end Go.Proofs.YtoefnmhmiphilaaGreatDoor.Tp

namespace Go.Proofs.YtoefnmhmiphilaaGreatDoor.Tp
open Go Go.RowKit Go.Proofs.YtoefnmhmiphilaaGreatDoorW.PrintWords Go.Proofs.YtoefnmhmiphilaaGreatDoorW.PrintLast
section
variable {P : Program} {ops : Array Oper} {Q : Exit → Act → World → Prop}
theorem callT_ {rest : List Oper} {oi : Oper} {a : Act} {w : World} (N : Option Tmp) (hd : oi.dst = N) (hg : oi.guard = none) {f : FuncId} {fn : Func} {t : Tmp} {as_ : Array Operand} {ts : Array TypeId} (bound caps : Array Value) (hop : oi.op = .call { callee := .value (.tmp t), args := as_, argTypes := ts }) (hv : a.eval (.tmp t) = .func (.func f) bound caps)
    (hf : P.funcs[f]? = some fn) (hname : (fn.name == "runtime.NumGoroutine") = false) (hb : fn.body.isSome = true) (args : Array Value) (hargs : bound ++ as_.map a.eval ++ caps = args)
    (h : Calls P f args w fun e w' => ∃ v, e = .returned v ∧ wpList P ops Q rest (a.put N v) w') : wpList P ops Q (oi :: rest) a w := by
  refine wpList_plain hg fun K hK => ?_
  have he := enters_ hf hname hb args w
  have hrun : (execOp a.eval oi).run P w = .ok (.enter f args) w := by
    unfold execOp
    simp [hop, resolve, Deferred.ofValue, invoke, hv, hargs, he]
  unfold Oper.wp
  rw [hrun, Oper.upon_enter]
  refine h.mono fun e w'' hh => ?_
  obtain ⟨v, rfl, hk⟩ := hh
  subst hd
  exact hK _ _ hk
end
section
variable {W : World} {g base : Nat} {s : ByteArray} {p : Nat} {o : List Nd} {c a : Int} {v : Value}
def ERes {σ : Type} (I : σ → World → Prop) (X : Nat → Prop) (g base : Nat) (s : ByteArray) (c a : Int) (W : World) (v : Value) (o : List Nd) (x : Except (Int × Nat) (List Nd × List UInt8 × σ)) (r : Ending) (W' : World) : Prop :=
  match x with
  | .ok (o', r1, st) => ∃ v', r = .returned (.bool true) ∧ Sc W' g base s (s.size - r1.length) (o ++ o') c a v' ∧ Stp X g W v W' v' ∧ I st W'
  | .error e => ∃ q o2 v', r = .returned (.bool false) ∧ Sc W' g base s q o2 e.1 ((s.size : Int) - e.2) v' ∧ Stp X g W v W' v'
def RRes (X : Nat → Prop) (g base : Nat) (s : ByteArray) (c a : Int) (W : World) (v : Value) (o : List Nd) (x : Except (Int × Nat) (List Nd × List UInt8 × Int)) (r : Ending) (W' : World) : Prop :=
  match x with
  | .ok (o', r1, n) => ∃ v', r = .returned (.tuple #[.int .i64 n, .bool true]) ∧ Sc W' g base s (s.size - r1.length) (o ++ o') c a v' ∧ Stp X g W v W' v'
  | .error e => ∃ q o2 v' m, r = .returned (.tuple #[.int .i64 m, .bool false]) ∧ Sc W' g base s q o2 e.1 ((s.size : Int) - e.2) v' ∧ Stp X g W v W' v'
theorem RRes.mk_ok {X : Nat → Prop} {W' W0 : World} {v' v0 : Value} {o' : List Nd} {r1 : List UInt8} {n : Int} {x : Except (Int × Nat) (List Nd × List UInt8 × Int)} (hx : x = .ok (o', r1, n)) (h : Sc W' g base s (s.size - r1.length) (o ++ o') c a v') (ht : Stp X g W0 v0 W' v') : RRes X g base s c a W0 v0 o x (.returned (.tuple #[.int .i64 n, .bool true])) W' := by
  subst hx; exact ⟨v', rfl, h, ht⟩
theorem RRes.mk_err {X : Nat → Prop} {W' W0 : World} {v' v0 : Value} {o2 : List Nd} {q : Nat} {e : Int × Nat} {m : Int} {x : Except (Int × Nat) (List Nd × List UInt8 × Int)} (hx : x = .error e) (h : Sc W' g base s q o2 e.1 ((s.size : Int) - e.2) v') (ht : Stp X g W0 v0 W' v') : RRes X g base s c a W0 v0 o x (.returned (.tuple #[.int .i64 m, .bool false])) W' := by
  subst hx; exact ⟨q, o2, v', m, rfl, h, ht⟩
def Eats {σ : Type} (each : σ → List UInt8 → Except (Int × Nat) (List Nd × List UInt8 × σ)) : Prop :=
  ∀ st r o r1 st1, each st r = .ok (o, r1, st1) → ∃ cc, r = cc ++ r1 ∧ cc ≠ [] ∧ o.length ≤ cc.length
theorem top_ne {r : List UInt8} {b : UInt8} (hb : b ≠ 0) (h : ∀ t, r ≠ b :: t) : (top r == (b.toNat : Int)) = false := by
  cases r with
  | nil => exact u8_ne (x := 0) (Ne.symm hb)
  | cons y u => exact u8_ne (fun e => h u (by rw [e]))
theorem stp0 {X : Nat → Prop} {W1 : World} {v1 : Value} (h : Stp (fun _ => False) g W v W1 v1) : Stp X g W v W1 v1 := h.mono (fun _ _ f => f.elim)
set_option maxHeartbeats 16000000 in
set_option maxRecDepth 100000 in
theorem row_calls {σ : Type} (h : Sc W g base s p o c a v) (X : Nat → Prop) (hz : s.size ≤ 70368744177664) (e : UInt8) (he : e = 93 ∨ e = 125) (each : σ → List UInt8 → Except (Int × Nat) (List Nd × List UInt8 × σ)) (hE : Eats each)
    (F : Nat) (fn : Func) (hf : Tryz.prog.funcs[F]? = some fn) (hname : (fn.name == "runtime.NumGoroutine") = false) (hb : fn.body.isSome = true) (caps : Array Value) (I : σ → World → Prop) (J : σ → Nat → Prop) (hJm : ∀ st m n, J st n → m ≤ n → J st m) (hJe : ∀ st r o r1 st1, each st r = .ok (o, r1, st1) → J st r.length → J st1 r1.length) (st0 : σ) (hI0 : I st0 W)
    (hI : ∀ st W1 v1 W2 v2 q o1, Sc W1 g base s q o1 c a v1 → I st W1 → Stp (fun _ => False) g W1 v1 W2 v2 → I st W2)
    (hC : ∀ st W1 v1 q o1, Sc W1 g base s q o1 c a v1 → I st W1 → J st (s.size - q) → o1.length + (s.size - q) ≤ 4294967296 → Calls Tryz.prog F caps W1 (ERes I X g base s c a W1 v1 o1 (each st (rest s q))))
    (b : UInt8) (t : List UInt8) (hr : rest s p = b :: t) (hJ0 : J st0 t.length) (hfew : o.length + (s.size - p) ≤ 4294967296) :
    Calls Tryz.prog 62 #[.pointer (some ⟨g, 0, none⟩), .int .u8 (e.toNat : Int), .func (.func F) #[] caps] W (RRes X g base s c a W v o (rows e each st0 t)) := by
  obtain ⟨c0, c1, c2, c3, c4⟩ := h.reads
  have f1 := h.frz 1
  have hp := h.le
  have hlt := rest_lt hr
  have hrt := (rest_get hr hlt).2
  have he0 : e ≠ 0 := by rcases he with rfl | rfl <;> decide
  have he44 : ¬ e = 44 := by rcases he with rfl | rfl <;> decide
  have S0 := Lib.hid (h.at_ (p + 1) (by omega))
  have T0 : Hid (Stp (fun _ => False) g W v (W.setCell ⟨g, 1, none⟩ (.int .i64 ((p + 1 : Nat) : Int))) v) := Lib.hid ((Stp.refl _ g W v).set _)
  have I0 := Lib.hid (hI _ _ _ _ _ _ _ h hI0 T0.out)
  have HII := Lib.hid hI
  have HCC := Lib.hid hC
  have HEE := Lib.hid hE
  have HJM := Lib.hid hJm
  have HJE := Lib.hid hJe
  have HJ0 := Lib.hid hJ0
  have CN := Lib.hid (next_calls S0.out (fun _ => False) (by omega))
  rw [hrt] at CN
  have hrs : rest s (s.size - (skip t).length) = skip t := by
    have := rest_skip (s := s) (p := p + 1) (by omega)
    rw [hrt] at this; exact this
  have HRS := Lib.hid hrs
  have htl : t.length = s.size - (p + 1) := by rw [← hrt, rest_len]
  have hsl : (skip t).length ≤ t.length := by
    obtain ⟨cc, ec, _⟩ := skip_self t
    have := congrArg List.length ec
    rw [List.length_append] at this; omega
  have HTL := Lib.hid htl
  have HSL := Lib.hid hsl
  have HF := Lib.hid hfew
  clear hI0 hI hC hE hJm hJe hJ0 h hr hrt htl hsl hfew hrs
  by_cases hend : ∃ u, skip t = e :: u
  · obtain ⟨u, hu⟩ := hend
    have hx : rows e each st0 t = .ok ([], u, 0) := by unfold rows; rw [hu]; simp
    have HX := Lib.hid hx
    rw [hu, show top (e :: u) = (e.toNat : Int) from rfl] at CN
    have hle : s.size - (e :: u).length + 1 = s.size - u.length := by have := HSL.out; rw [hu] at this; simp only [List.length_cons] at this ⊢; have := HTL.out; omega
    have hle2 : s.size - u.length ≤ s.size := by omega
    obtain ⟨q, hq⟩ : ∃ q, s.size - (e :: u).length = q := ⟨_, rfl⟩
    rw [hq] at CN hle
    rw [← hle] at hle2
    have HLE := Lib.hid hle
    clear hx hu hq hle
    go_enter Tryz.func62, Tryz.ntmps62
    go_wp2_with (first | (go_at_call 38; refine CN.out.mono ?_; rintro e W1 ⟨rfl, hS, hT⟩; have S1 := Lib.hid hS; have T1 := Lib.hid hT; obtain ⟨d0, d1, d2, d3, d4⟩ := hS.reads; have g1 := hS.frz 1; clear hS hT))
    go_ret2
    exact RRes.mk_ok HX.out (by rw [List.append_nil, ← HLE.out]; exact S1.out.at_ _ hle2) ((stp0 (T0.out.trans T1.out)).set _)
  · have hne : ∀ u, skip t ≠ e :: u := fun u hu => hend ⟨u, hu⟩
    have ht1 := top_ne he0 hne
    have hx : ∃ k, rows e each st0 t = row e each k st0 (skip t) [] 1 ∧ (skip t).length < k ∧ k ≤ t.length + 1 := by
      unfold rows
      cases hs : skip t with
      | nil => exact ⟨1, rfl, by simp, by omega⟩
      | cons d u =>
        refine ⟨t.length + 1, ?_, by have := HSL.out; rw [hs] at this; omega, Nat.le_refl _⟩
        simp only
        rw [if_neg (fun e1 => hne u (by rw [hs, e1]))]
    obtain ⟨k0, hx1, hx2, hx3⟩ := hx
    have HX := Lib.hid hx1
    have HK2 := Lib.hid hx2
    have HK3 := Lib.hid hx3
    obtain ⟨N, hN⟩ : ∃ N, top (skip t) = N := ⟨_, rfl⟩
    rw [hN] at CN ht1
    clear hx1 hx2 hx3 hne hend hN
    go_enter Tryz.func62, Tryz.ntmps62
    go_wp2_with (first | (go_at_call 38; refine CN.out.mono ?_; rintro e W1 ⟨rfl, hS, hT⟩; have S1 := Lib.hid hS; have T1 := Lib.hid hT; clear hS hT))
    have I1 := Lib.hid (HII.out _ _ _ _ _ _ _ S0.out I0.out T1.out)
    have Z1 := Lib.hid (T0.out.trans T1.out)
    go_loopg [8] k0 (fun k v8 W' => ∃ (n : Int) (q : Nat) (oa : List Nd) (st : σ) (v' : Value), v8 = .int .i64 n ∧ Hid (Sc W' g base s q (o ++ oa) c a v') ∧ Hid (Stp X g W v W' v') ∧ Hid (I st W') ∧ Hid (rows e each st0 t = row e each k st (rest s q) oa n) ∧ Hid (s.size - q < k) ∧ Aside0 (1 ≤ n ∧ n + k ≤ t.length + 2) ∧ Hid ((o ++ oa).length + (s.size - q) ≤ 4294967296) ∧ Hid (J st (s.size - q)))
    case atStart =>
      refine ⟨1, _, [], st0, v, rfl, Lib.hid (by rw [List.append_nil]; exact S1.out), Lib.hid (stp0 Z1.out), I1, Lib.hid (by rw [HRS.out]; exact HX.out), Lib.hid ?_, ⟨?_⟩, Lib.hid ?_, Lib.hid ?_⟩
      · have := HK2.out; have := HSL.out; have := HTL.out; omega
      · have := HK3.out; omega
      · rw [List.append_nil]; have := HF.out; have := HSL.out; have := HTL.out; omega
      · exact HJM.out _ _ _ HJ0.out (by have := HSL.out; omega)
    case round =>
      obtain ⟨n, q, oa, st, v', rfl, HS, HT, HI2, HR, HK, HN, HFw, HJ⟩ := hrel
      have hq := HS.out.le
      have CE := Lib.hid (HCC.out st wr v' q (o ++ oa) HS.out HI2.out HJ.out HFw.out)
      have hz2 : s.size ≤ 4611686018427387904 := by omega
      cases gk with
      | zero => exact absurd HK.out (by omega)
      | succ k1 =>
        have hrow := HR.out
        simp only [row] at hrow
        cases hx : each st (rest s q) with
        | error x =>
          rw [hx] at CE hrow
          have HRW := Lib.hid hrow
          clear hrow hx
          go_wp2_with (first | (refine callT_ (some 30) rfl rfl #[] caps rfl rfl hf hname hb caps (by simp) ?_; refine CE.out.mono ?_; rintro e1 W1 ⟨q1, o2, v1, rfl, hS, hT⟩; refine ⟨_, rfl, ?_⟩; have S2 := Lib.hid hS; have T2 := Lib.hid hT; clear hS hT))
          go_ret2
          exact RRes.mk_err HRW.out S2.out (HT.out.trans T2.out)
        | ok y =>
          obtain ⟨p1, r1, st1⟩ := y
          rw [hx] at CE hrow
          simp only at hrow
          obtain ⟨cc, ecc, ncc, lcc⟩ := HEE.out st (rest s q) p1 r1 st1 hx
          have hrl := rest_len s q
          have HJ1 := Lib.hid (HJE.out _ _ _ _ _ hx (by rw [hrl]; exact HJ.out))
          have hsf := rest_suffix hq ecc
          have hcl : cc.length + r1.length = s.size - q := by rw [← hrl, ecc, List.length_append]
          have hc1 : 1 ≤ cc.length := by cases cc with | nil => exact absurd rfl ncc | cons => simp
          obtain ⟨cb, ecb, _⟩ := skip_self r1
          have hsk : (skip r1).length ≤ r1.length := by have := congrArg List.length ecb; rw [List.length_append] at this; omega
          have hr2 : rest s (s.size - (skip r1).length) = skip r1 := by
            have := rest_skip (s := s) (p := s.size - r1.length) (by omega)
            rw [hsf.1] at this; exact this
          have CNX := Lib.hid (fun W1 v1 (h : Sc W1 g base s (s.size - r1.length) (o ++ oa ++ p1) c a v1) => next_calls h (fun _ => False) hz2)
          rw [hsf.1] at CNX
          have hn : 1 ≤ n := HN.out.1
          have hn2 : n ≤ 9000000000000000000 := by have := HN.out.2; have := HTL.out; omega
          have HL1 := Lib.hid (show (o ++ oa ++ p1).length + r1.length ≤ 4294967296 by have := HFw.out; rw [List.length_append] at this ⊢; rw [List.length_append]; omega)
          have HL2 := Lib.hid hsk
          have HL3 := Lib.hid (show r1.length + 1 ≤ s.size - q by omega)
          clear hx ecc ncc lcc hrl hsf hcl hc1 ecb hsk
          cases hs : skip r1 with
          | nil =>
            rw [hs] at hrow CNX hr2
            rw [show top [] = 0 from rfl] at CNX
            have HRW := Lib.hid hrow
            have HTK := Lib.hid (show takeB e (rest s (s.size - ([] : List UInt8).length)) = .error (11, 0) by rw [hr2]; rfl)
            clear hrow hr2 hs
            go_wp2_with (first | (refine callT_ (some 30) rfl rfl #[] caps rfl rfl hf hname hb caps (by simp) ?_; refine CE.out.mono ?_; rintro e1 W2 ⟨v2, rfl, hS, hT, hi⟩; refine ⟨_, rfl, ?_⟩; have S2 := Lib.hid hS; have T2 := Lib.hid hT; have J2 := Lib.hid hi; clear hS hT hi) | (go_at_call 38; refine (CNX.out _ _ S2.out).mono ?_; rintro e1 W3 ⟨rfl, hS, hT⟩; have S3 := Lib.hid hS; have T3 := Lib.hid hT; have J3 := Lib.hid (HII.out _ _ _ _ _ _ _ S2.out J2.out hT); obtain ⟨d0, d1, d2, d3, d4⟩ := hS.reads; have g1 := hS.frz 1; clear hS hT) | (go_at_call 79; refine (take_err S3.out (fun _ => False) (by omega) e he0 _ HTK.out).mono ?_; rintro e1 W4 ⟨rfl, ⟨q4, hS⟩, hT⟩; have S4 := Lib.hid hS; have T4 := Lib.hid hT; clear hS hT))
            go_ret2
            exact RRes.mk_err HRW.out S4.out ((HT.out.trans T2.out).trans (stp0 (T3.out.trans T4.out)))
          | cons c1 t2 =>
            rw [hs] at hrow CNX hr2
            simp only at hrow
            have hnb := skip_head hs
            have hsl2 : t2.length + 1 ≤ r1.length := by have := HL2.out; rw [hs] at this; simpa using this
            rw [show top (c1 :: t2) = (c1.toNat : Int) from rfl] at CNX
            obtain ⟨q2, hq2⟩ : ∃ q2, s.size - (c1 :: t2).length = q2 := ⟨_, rfl⟩
            rw [hq2] at CNX hr2
            rw [List.length_cons] at hq2
            have hlt2 := rest_lt hr2
            have hq3 : q2 + 1 ≤ s.size := by omega
            by_cases h44 : c1 = 44
            · subst h44
              rw [if_pos rfl] at hrow
              have hrt2 := (rest_get hr2 hlt2).2
              have CNY := Lib.hid (fun W1 v1 (h : Sc W1 g base s (q2 + 1) (o ++ oa ++ p1) c a v1) => next_calls h (fun _ => False) hz2)
              rw [hrt2] at CNY
              have hr3 : rest s (s.size - (skip t2).length) = skip t2 := by
                have := rest_skip (s := s) (p := q2 + 1) hq3
                rw [hrt2] at this; exact this
              obtain ⟨cd, ecd, _⟩ := skip_self t2
              have hsk2 : (skip t2).length ≤ t2.length := by have := congrArg List.length ecd; rw [List.length_append] at this; omega
              have HL4 := Lib.hid (show (skip t2).length + 2 ≤ r1.length + 1 by omega)
              have HQ2 := Lib.hid hq2
              clear hrt2 ecd hsk2 hr2 hs hq2
              by_cases hend : ∃ u, skip t2 = e :: u
              · obtain ⟨u, hu⟩ := hend
                rw [hu] at hrow CNY hr3
                simp only [if_true] at hrow
                rw [show top (e :: u) = (e.toNat : Int) from rfl] at CNY
                have HRW := Lib.hid hrow
                have HO := Lib.hid (show odd (rest s (s.size - (e :: u).length)) = (10, u.length + 1) by rw [hr3]; simp [odd])
                clear hrow hr3 hu
                go_wp2_with (first | (refine callT_ (some 30) rfl rfl #[] caps rfl rfl hf hname hb caps (by simp) ?_; refine CE.out.mono ?_; rintro e1 W2 ⟨v2, rfl, hS, hT, hi⟩; refine ⟨_, rfl, ?_⟩; have S2 := Lib.hid hS; have T2 := Lib.hid hT; have J2 := Lib.hid hi; clear hS hT hi) | (go_at_call 38; refine (CNY.out _ _ (S3.out.at_ (q2 + 1) hq3)).mono ?_; rintro e1 W4 ⟨rfl, hS, hT⟩; have S4 := Lib.hid hS; have T4 := Lib.hid (((Stp.refl (fun _ => False) g W3 v2).set (.int .i64 ((q2 + 1 : Nat) : Int))).trans hT); have J4 := Lib.hid (HII.out _ _ _ _ _ _ _ S3.out J3.out T4.out); clear hS hT) | (go_at_call 38; refine (CNX.out _ _ S2.out).mono ?_; rintro e1 W3 ⟨rfl, hS, hT⟩; have S3 := Lib.hid hS; have T3 := Lib.hid hT; have J3 := Lib.hid (HII.out _ _ _ _ _ _ _ S2.out J2.out hT); obtain ⟨d0, d1, d2, d3, d4⟩ := hS.reads; have g1 := hS.frz 1; clear hS hT) | (go_at_call 39; refine (odd_calls S4.out (fun _ => False)).mono ?_; rintro e1 W5 ⟨rfl, hS, hT⟩; have S5 := Lib.hid hS; have T5 := Lib.hid hT; clear hS hT))
                go_ret2
                have h5 := S5.out
                rw [HO.out] at h5
                exact RRes.mk_err HRW.out h5 ((HT.out.trans T2.out).trans (stp0 ((T3.out.trans T4.out).trans T5.out)))
              · have hne : ∀ u, skip t2 ≠ e :: u := fun u hu => hend ⟨u, hu⟩
                have ht1 := top_ne he0 hne
                have hrow2 : rows e each st0 t = row e each k1 st1 (skip t2) (oa ++ p1) (n + 1) := by
                  rw [hrow]
                  cases hs3 : skip t2 with
                  | nil => rfl
                  | cons d u => simp only; rw [if_neg (fun e1 => hne u (by rw [hs3, e1]))]
                have HRW := Lib.hid hrow2
                have HR3 := Lib.hid hr3
                obtain ⟨N, hN⟩ : ∃ N, top (skip t2) = N := ⟨_, rfl⟩
                rw [hN] at CNY ht1
                clear hrow hrow2 hr3 hne hend hN
                go_wp2_with (first | (refine callT_ (some 30) rfl rfl #[] caps rfl rfl hf hname hb caps (by simp) ?_; refine CE.out.mono ?_; rintro e1 W2 ⟨v2, rfl, hS, hT, hi⟩; refine ⟨_, rfl, ?_⟩; have S2 := Lib.hid hS; have T2 := Lib.hid hT; have J2 := Lib.hid hi; clear hS hT hi) | (go_at_call 38; refine (CNY.out _ _ (S3.out.at_ (q2 + 1) hq3)).mono ?_; rintro e1 W4 ⟨rfl, hS, hT⟩; have S4 := Lib.hid hS; have T4 := Lib.hid (((Stp.refl (fun _ => False) g W3 v2).set (.int .i64 ((q2 + 1 : Nat) : Int))).trans hT); have J4 := Lib.hid (HII.out _ _ _ _ _ _ _ S3.out J3.out T4.out); clear hS hT) | (go_at_call 38; refine (CNX.out _ _ S2.out).mono ?_; rintro e1 W3 ⟨rfl, hS, hT⟩; have S3 := Lib.hid hS; have T3 := Lib.hid hT; have J3 := Lib.hid (HII.out _ _ _ _ _ _ _ S2.out J2.out hT); obtain ⟨d0, d1, d2, d3, d4⟩ := hS.reads; have g1 := hS.frz 1; clear hS hT))
                go_roundg k1
                case rel =>
                  refine ⟨n + 1, _, oa ++ p1, st1, v2, rfl, Lib.hid (by rw [← List.append_assoc]; exact S4.out), Lib.hid ((HT.out.trans T2.out).trans (stp0 (T3.out.trans T4.out))), J4, Lib.hid (by rw [HR3.out]; exact HRW.out), Lib.hid ?_, ⟨?_⟩, Lib.hid ?_, Lib.hid ?_⟩
                  · have := HK.out; have := HL3.out; have := HL4.out; omega
                  · have := HN.out; omega
                  · rw [← List.append_assoc]; have := HL1.out; have := HL4.out; omega
                  · exact HJM.out _ _ _ HJ1.out (by have := HL4.out; omega)
                case measure => omega
            · have t44 : ((c1.toNat : Int) == 44) = false := u8_ne (y := 44) h44
              have t44' : ((c1.toNat : Int) != 44) = true := by rw [bne, t44]; rfl
              rw [if_neg h44] at hrow
              have htk : takeB e (rest s q2) = if c1 = e then .ok t2 else .error (10, t2.length + 1) := by
                unfold takeB; rw [hr2, skip_nb hnb]
              by_cases hce : c1 = e
              · rw [if_pos hce] at hrow htk
                have HRW := Lib.hid hrow
                have HTK := Lib.hid htk
                clear hrow htk hr2 hs hq2 hce
                go_wp2_with (first | (refine callT_ (some 30) rfl rfl #[] caps rfl rfl hf hname hb caps (by simp) ?_; refine CE.out.mono ?_; rintro e1 W2 ⟨v2, rfl, hS, hT, hi⟩; refine ⟨_, rfl, ?_⟩; have S2 := Lib.hid hS; have T2 := Lib.hid hT; have J2 := Lib.hid hi; clear hS hT hi) | (go_at_call 38; refine (CNX.out _ _ S2.out).mono ?_; rintro e1 W3 ⟨rfl, hS, hT⟩; have S3 := Lib.hid hS; have T3 := Lib.hid hT; have J3 := Lib.hid (HII.out _ _ _ _ _ _ _ S2.out J2.out hT); obtain ⟨d0, d1, d2, d3, d4⟩ := hS.reads; have g1 := hS.frz 1; clear hS hT) | (go_at_call 79; refine (take_ok S3.out (fun _ => False) (by omega) e _ HTK.out).mono ?_; rintro e1 W4 ⟨rfl, hS, hT⟩; have S4 := Lib.hid hS; have T4 := Lib.hid hT; clear hS hT))
                go_ret2
                exact RRes.mk_ok HRW.out (by rw [← List.append_assoc]; exact S4.out) ((HT.out.trans T2.out).trans (stp0 (T3.out.trans T4.out)))
              · rw [if_neg hce] at hrow htk
                have HRW := Lib.hid hrow
                have HTK := Lib.hid htk
                clear hrow htk hr2 hs hq2 hce
                go_wp2_with (first | (refine callT_ (some 30) rfl rfl #[] caps rfl rfl hf hname hb caps (by simp) ?_; refine CE.out.mono ?_; rintro e1 W2 ⟨v2, rfl, hS, hT, hi⟩; refine ⟨_, rfl, ?_⟩; have S2 := Lib.hid hS; have T2 := Lib.hid hT; have J2 := Lib.hid hi; clear hS hT hi) | (go_at_call 38; refine (CNX.out _ _ S2.out).mono ?_; rintro e1 W3 ⟨rfl, hS, hT⟩; have S3 := Lib.hid hS; have T3 := Lib.hid hT; have J3 := Lib.hid (HII.out _ _ _ _ _ _ _ S2.out J2.out hT); obtain ⟨d0, d1, d2, d3, d4⟩ := hS.reads; have g1 := hS.frz 1; clear hS hT) | (go_at_call 79; refine (take_err S3.out (fun _ => False) (by omega) e he0 _ HTK.out).mono ?_; rintro e1 W4 ⟨rfl, ⟨q4, hS⟩, hT⟩; have S4 := Lib.hid hS; have T4 := Lib.hid hT; clear hS hT))
                go_ret2
                exact RRes.mk_err HRW.out S4.out ((HT.out.trans T2.out).trans (stp0 (T3.out.trans T4.out)))
end
end Go.Proofs.YtoefnmhmiphilaaGreatDoor.Tp

namespace Go.Proofs.YtoefnmhmiphilaaGreatDoor.Tp
open Go Go.RowKit Go.Maps Go.ChangeMaps Go.WideMaps Go.Proofs.YtoefnmhmiphilaaGreatDoorW.PrintWords

theorem law : Keyed Tryz.prog 9 := string_keyed Tryz.underlying9
theorem zeroB (w : World) : (zeroValue 4).run Tryz.prog w = .ok (.bool false) w := by kernel_rfl
def Keys (W : World) (mb : Nat) (ks : List (List UInt8)) : Prop :=
  ∃ D : DataW Unit, W.ownsMap Tryz.prog 9 (plainElem Tryz.prog 4) mb ks.length D ∧ ∀ key, D.atKey (.string key) (.lit (.bool false)) = .lit (.bool (decide (key ∈ ks)))
theorem Keys.made (w : World) : Keys (w.alloc (.map #[] 0)) w.heap.size [] := ⟨.map [], World.ownsMap_made _ _ _ _, fun _ => rfl⟩
theorem Keys.same {W W' : World} {mb : Nat} {ks : List (List UInt8)} (h : Keys W mb ks) (hb : W'.heap[mb]? = W.heap[mb]?) : Keys W' mb ks := by
  obtain ⟨D, ⟨es, clock, h1, r⟩, h2⟩ := h
  exact ⟨D, ⟨es, clock, hb.trans h1, r⟩, h2⟩
theorem Keys.lt {W : World} {mb : Nat} {ks : List (List UInt8)} (h : Keys W mb ks) : mb < W.heap.size := by obtain ⟨D, h1, _⟩ := h; exact h1.lt
theorem plainElem_bool_inv {P : Program} {e : TypeId} (he : P.underlying e = some .bool) {v : Value} {z : DataW Unit × List MemPlace} (h : plainElem P e v = some z) : ∃ x, v = .bool x ∧ z = (.lit (.bool x), []) := by
  unfold plainElem at h
  rw [he] at h
  cases v <;> simp at h
  exact ⟨_, rfl, h.symm⟩
theorem Keys.look {W : World} {mb : Nat} {ks : List (List UInt8)} (h : Keys W mb ks) (s : ByteArray) (hs : s.size ≤ maxLen) : (Instr.lookup 93 (.map (some mb)) (.string s) false).run Tryz.prog W = .ok (.bool (decide (s.data.toList ∈ ks))) W := by
  obtain ⟨D, h1, h2⟩ := h
  obtain ⟨v, ps, hrun, hv⟩ := h1.lookup law Tryz.underlying93 (zeroB W) (plainElem_bool Tryz.underlying4 false) (keyOf_string_mk Tryz.underlying9 hs)
  obtain ⟨x, rfl, hx⟩ := plainElem_bool_inv Tryz.underlying4 hv
  simp only [Prod.mk.injEq] at hx
  rw [h2] at hx
  have hx1 : decide (s.data.toList ∈ ks) = x := congrArg (fun d : DataW Unit => match d with | .lit (.bool b) => b | _ => false) hx.1
  rw [hrun, ← hx1]
theorem Keys.put {W : World} {mb : Nat} {ks : List (List UInt8)} (h : Keys W mb ks) (s : ByteArray) (hs : s.size ≤ maxLen) (hn : ks.length < maxLen) :
    ∃ W', (Instr.mapUpdate 93 (.map (some mb)) (.string s) (.bool true)).run Tryz.prog W = .ok () W' ∧ Keys W' mb (ks ++ [s.data.toList]) ∧ W.grownBy W' (some mb) := by
  obtain ⟨D, h1, h2⟩ := h
  have hM := h1.isMap
  obtain ⟨W', hrun, hown, hg⟩ := h1.update law Tryz.underlying93 hn (keyOf_string_mk Tryz.underlying9 hs) (plainElem_bool Tryz.underlying4 true)
  refine ⟨W', hrun, ⟨D.put (.string s.data.toList) (.lit (.bool true)), ?_, fun key => ?_⟩, hg⟩
  · rw [List.length_append]; exact hown
  · by_cases hk : key = s.data.toList
    · subst hk
      rw [atKey_put_same hM (show WideAt.IsKeyLit (.string s.data.toList) from trivial)]
      simp
    · rw [atKey_put_other (fun e => hk (by injection e)), h2]
      simp [hk]
section
variable {P : Program} {ops : Array Oper} {Q : Exit → Act → World → Prop}
theorem lookup_step {W W1 : World} {rest : List Oper} {o : Oper} {a : Act} (hg : o.guard = none) (m x : Operand) (t : TypeId) (hop : o.op = Op.lookup t m x false) {vm vx v : Value} (hm : a.eval m = vm) (hx : a.eval x = vx)
    (hrun : (Instr.lookup t vm vx false).run P W = .ok v W1) (h : wpList P ops Q rest (a.put o.dst v) W1) : wpList P ops Q (o :: rest) a W := by
  refine wpList_plain hg fun K' hK' => ?_
  unfold Oper.wp
  simp [execOp, hop, hm, hx, hrun, Result.andThen]
  exact hK' _ _ h
theorem update_step {W W1 : World} {rest : List Oper} {o : Oper} {a : Act} (hg : o.guard = none) (m x y : Operand) (t : TypeId) (hop : o.op = Op.mapUpdate t m x y) {vm vx vy : Value} (hm : a.eval m = vm) (hx : a.eval x = vx) (hy : a.eval y = vy)
    (hrun : (Instr.mapUpdate t vm vx vy).run P W = .ok () W1) (h : wpList P ops Q rest (a.put o.dst undef) W1) : wpList P ops Q (o :: rest) a W := by
  refine wpList_plain hg fun K' hK' => ?_
  unfold Oper.wp
  simp [execOp, hop, hm, hx, hy, hrun, Result.andThen]
  exact hK' _ _ h
end
section
variable {W : World} {g base : Nat} {s : ByteArray} {p : Nat} {o : List Nd} {c a : Int} {v : Value}
theorem Keys.keep {W' : World} {v' : Value} {X : Nat → Prop} {mb : Nat} {ks : List (List UInt8)} (h : Keys W mb ks) (hS : Sc W g base s p o c a v) (hT : Stp X g W v W' v') (hX : ¬ X mb) : Keys W' mb ks := by
  have hm := h
  obtain ⟨D, ⟨es, clock, h1, _⟩, _⟩ := hm
  exact h.same ((hS.keep hT h1 hX (fun cs t f e => by cases e)).trans h1.symm)
theorem Sc.grown {W' : World} {mb : Nat} (h : Sc W g base s p o c a v) (hg : W.grownBy W' (some mb)) (h1 : g ≠ mb) (h2 : some mb ≠ v.ownBlock) : Sc W' g base s p o c a v :=
  ⟨(hg.block g (blk_lt h.blk) (by simpa using h1)).trans h.blk, own_same h.out (fun k hk => hg.block k (h.own_lt k hk) (fun e => h2 (by rw [hk]; exact e.symm))), h.le, h.ge⟩
theorem stp_grown {W' : World} {mb : Nat} (hg : W.grownBy W' (some mb)) : Stp (fun i => i = mb) g W v W' v :=
  ⟨⟨hg.os, hg.tape, hg.output, hg.size, fun i hi hn => hg.block i hi (fun e => hn (.inr (.inr (by simpa using e))))⟩, fun _ h => .inl h⟩
theorem str_len : ∀ (k : Nat) (r acc o r1 : List UInt8), r.length < k → str r acc = .ok (o, r1) → o.length ≤ acc.length + r.length
  | 0, _, _, _, _, hk, _ => by omega
  | _ + 1, [], _, _, _, _, h => by simp [str] at h
  | k + 1, x :: t, acc, o, r1, hk, h => by
    rw [List.length_cons] at hk ⊢
    unfold str at h
    by_cases h34 : x = 34
    · rw [if_pos h34] at h; cases h; omega
    · rw [if_neg h34] at h
      by_cases h92 : x = 92
      · rw [if_pos h92] at h
        cases t with
        | nil => cases h
        | cons y u =>
          simp only at h
          rw [List.length_cons] at hk ⊢
          by_cases hy : y = 34 ∨ y = 92
          · rw [if_pos hy] at h
            have := str_len k u _ _ _ (by omega) h
            rw [List.length_append] at this; simp at this; omega
          · rw [if_neg hy] at h
            by_cases hn : y = 110
            · rw [if_pos hn] at h
              have := str_len k u _ _ _ (by omega) h
              rw [List.length_append] at this; simp at this; omega
            · rw [if_neg hn] at h; cases h
      · rw [if_neg h92] at h
        by_cases hb : x.toNat < 32 ∨ 126 < x.toNat
        · rw [if_pos hb] at h; cases h
        · rw [if_neg hb] at h
          have := str_len k t _ _ _ (by omega) h
          rw [List.length_append] at this; simp at this; omega
theorem quoted_len {r key r1 : List UInt8} (h : quoted r = .ok (key, r1)) : key.length ≤ r.length := by
  unfold quoted at h
  cases ht : takeB 34 r with
  | error x => rw [ht] at h; cases h
  | ok t =>
    rw [ht] at h
    obtain ⟨c, e, _⟩ := takeB_ext ht
    have := congrArg List.length e
    rw [List.length_append, List.length_cons] at this
    have := str_len _ t [] _ _ (Nat.lt_succ_self _) h
    simp at this; omega
theorem ERes.mk_err {σ : Type} {I : σ → World → Prop} {X : Nat → Prop} {W' W0 : World} {v' v0 : Value} {o2 : List Nd} {q : Nat} {e : Int × Nat} {x : Except (Int × Nat) (List Nd × List UInt8 × σ)} (hx : x = .error e) (h : Sc W' g base s q o2 e.1 ((s.size : Int) - e.2) v') (ht : Stp X g W0 v0 W' v') : ERes I X g base s c a W0 v0 o x (.returned (.bool false)) W' := by
  subst hx; exact ⟨q, o2, v', rfl, h, ht⟩
theorem ERes.mk_ok {σ : Type} {I : σ → World → Prop} {X : Nat → Prop} {W' W0 : World} {v' v0 : Value} {o' : List Nd} {r1 : List UInt8} {st : σ} {x : Except (Int × Nat) (List Nd × List UInt8 × σ)} (hx : x = .ok (o', r1, st)) (h : Sc W' g base s (s.size - r1.length) (o ++ o') c a v') (ht : Stp X g W0 v0 W' v') (hI : I st W') : ERes I X g base s c a W0 v0 o x (.returned (.bool true)) W' := by
  subst hx; exact ⟨v', rfl, h, ht, hI⟩
set_option maxHeartbeats 16000000 in
set_option maxRecDepth 100000 in
theorem member_calls (h : Sc W g base s p o c a v) (hz : s.size ≤ 70368744177664) (mb : Nat) (ks : List (List UInt8)) (hk : Keys W mb ks) (hkl : ks.length ≤ s.size) (dep : Int) (hd0 : 0 ≤ dep) (hd1 : dep ≤ 100) (val : List UInt8 → R (List Nd)) (hvl : ∀ r o r1, val r = .ok (o, r1) → o.length + r1.length ≤ r.length)
    (hV : ∀ W1 v1 q o1, Sc W1 g base s q o1 c a v1 → o1.length + (s.size - q) ≤ 4294967296 → Calls Tryz.prog 37 #[.pointer (some ⟨g, 0, none⟩), .int .i64 (dep + 1)] W1 (Res (fun _ => False) g base s c a W1 v1 o1 (val (rest s q))))
    (hfew : o.length + (s.size - p) ≤ 4294967296) :
    Calls Tryz.prog 65 #[.pointer (some ⟨g, 0, none⟩), .map (some mb), .int .i64 dep] W (ERes (fun ks W' => Keys W' mb ks) (fun i => i = mb) g base s c a W v o (member val ks (rest s p))) := by
  have hp := h.le
  have hz2 : s.size ≤ 4611686018427387904 := by omega
  have CN := Lib.hid (next_calls h (fun _ => False) hz2)
  have hr1 := rest_skip hp
  have hgm : g ≠ mb := by
    intro e
    obtain ⟨D, ⟨es, clock, h1, _⟩, _⟩ := hk
    rw [← e, h.blk] at h1
    cases h1
  have hvm : some mb ≠ v.ownBlock := by
    obtain ⟨D, ⟨es, clock, h1, _⟩, _⟩ := hk
    exact h.apart h1 (fun cs t f e => by cases e)
  have H := Lib.hid h
  have HKS := Lib.hid hk
  have HVL := Lib.hid hvl
  have HV := Lib.hid hV
  have HF := Lib.hid hfew
  have hsl := skip_le (rest s p)
  rw [rest_len] at hsl
  have HSL := Lib.hid hsl
  have hq1s : (s.size : Int) - ((skip (rest s p)).length : Int) = ((s.size - (skip (rest s p)).length : Nat) : Int) := by omega
  obtain ⟨q1, hq1⟩ : ∃ q1, s.size - (skip (rest s p)).length = q1 := ⟨_, rfl⟩
  rw [hq1] at CN hr1 hq1s
  have HQ1 := Lib.hid hq1
  have HQ1S := Lib.hid hq1s
  have CQ := Lib.hid (fun W1 v1 (h1 : Sc W1 g base s q1 o c a v1) => quoted_calls h1 (fun _ => False) hz)
  rw [hr1] at CQ
  obtain ⟨N, hN⟩ : ∃ N, top (skip (rest s p)) = N := ⟨_, rfl⟩
  rw [hN] at CN
  have HR1 := Lib.hid hr1
  clear h hk hvl hV hr1 hN hfew hsl hq1 hq1s hp
  cases hq : quoted (skip (rest s p)) with
  | error x =>
    rw [hq] at CQ
    have HX := Lib.hid (show member val ks (rest s p) = .error x by unfold member; rw [hq])
    clear hq
    go_enter Tryz.func65, Tryz.ntmps65
    go_wp2_with (first | (go_at_call 38; refine CN.out.mono ?_; rintro e1 W1 ⟨rfl, hS, hT⟩; have S1 := Lib.hid hS; have T1 := Lib.hid hT; obtain ⟨d0, d1, d2, d3, d4⟩ := hS.reads; clear hS hT) | (go_at_call 60; refine (CQ.out _ _ S1.out).mono ?_; rintro e1 W2 ⟨q2, rfl, hS, hT⟩; have S2 := Lib.hid hS; have T2 := Lib.hid hT; clear hS hT))
    go_ret
    exact ERes.mk_err HX.out S2.out (stp0 (T1.out.trans T2.out))
  | ok y =>
    obtain ⟨key, r1⟩ := y
    rw [hq] at CQ
    obtain ⟨cq, ecq, _⟩ := quoted_ext hq
    have hlq := congrArg List.length ecq
    rw [List.length_append, List.length_cons] at hlq
    have hr2 := (rest_suffix (s := s) (p := q1) (c := cq ++ [34]) (x := r1) (by have := HQ1.out; omega) (by rw [HR1.out, ecq]; simp)).1
    have hkz : (⟨key.toArray⟩ : ByteArray).size ≤ maxLen := by
      have h1 : (⟨key.toArray⟩ : ByteArray).size = key.length := rfl
      have h2 := quoted_len hq
      have h3 := HSL.out
      unfold maxLen; omega
    have hkn : ks.length < maxLen := by unfold maxLen; omega
    have hlk : (⟨key.toArray⟩ : ByteArray).data.toList = key := rfl
    obtain ⟨KB, hKB⟩ : ∃ KB : ByteArray, (⟨key.toArray⟩ : ByteArray) = KB := ⟨_, rfl⟩
    rw [hKB] at hkz hlk
    have CQ2 : Hid (∀ W1 v1, Sc W1 g base s q1 o c a v1 → Calls Tryz.prog 60 #[.pointer (some ⟨g, 0, none⟩)] W1 fun r W' => r = .returned (.tuple #[.string KB, .bool true]) ∧ Sc W' g base s (s.size - r1.length) o c a v1 ∧ Stp (fun _ => False) g W1 v1 W' v1) := Lib.hid (by rw [← hKB]; exact CQ.out)
    clear CQ
    have CQ := CQ2
    clear CQ2
    obtain ⟨q2, hq2⟩ : ∃ q2, s.size - r1.length = q2 := ⟨_, rfl⟩
    rw [hq2] at CQ hr2
    by_cases hin : key ∈ ks
    · have HX := Lib.hid (show member val ks (rest s p) = .error (13, (skip (rest s p)).length) by unfold member; rw [hq]; simp only; rw [if_pos hin])
      have hdec : decide (KB.data.toList ∈ ks) = true := by rw [hlk]; exact decide_eq_true hin
      clear hq ecq hlq hr2 hin hlk hKB hq2
      go_enter Tryz.func65, Tryz.ntmps65
      go_wp2_with (first | (go_at_call 38; refine CN.out.mono ?_; rintro e1 W1 ⟨rfl, hS, hT⟩; have S1 := Lib.hid hS; have T1 := Lib.hid hT; have K1 := Lib.hid (HKS.out.keep H.out hT (fun f => f)); obtain ⟨d0, d1, d2, d3, d4⟩ := hS.reads; clear hS hT) | (go_at_call 60; refine (CQ.out _ _ S1.out).mono ?_; rintro e1 W2 ⟨rfl, hS, hT⟩; have S2 := Lib.hid hS; have T2 := Lib.hid hT; have K2 := Lib.hid (K1.out.keep S1.out hT (fun f => f)); clear hS hT) | (at_lookup; refine lookup_step (v := .bool true) rfl (.tmp 23) (.tmp 24) 93 rfl rfl rfl (by have hlook := K2.out.look _ hkz; rw [hdec] at hlook; exact hlook) ?_) | (go_at_call 55; refine (stop_calls S2.out (fun _ => False) _ _).mono ?_; rintro e1 W3 ⟨rfl, hS, hT⟩; have S3 := Lib.hid hS; have T3 := Lib.hid hT; clear hS hT))
      go_ret
      exact ERes.mk_err HX.out (by rw [HQ1S.out]; exact S3.out) (stp0 ((T1.out.trans T2.out).trans T3.out))
    · have hdec : decide (KB.data.toList ∈ ks) = false := by rw [hlk]; exact decide_eq_false hin
      have hmem : member val ks (rest s p) = (match takeB 58 r1 with
          | .error x => .error x
          | .ok r2 => match val r2 with
            | .error x => .error x
            | .ok (p, r3) => .ok (p ++ [⟨6, ⟨key.toArray⟩, 0, 1⟩], r3, ks ++ [key])) := by
        unfold member; rw [hq]; simp only; rw [if_neg hin]; rfl
      have HKB := Lib.hid hKB
      have HLK := Lib.hid hlk
      have HL2 := Lib.hid (show q2 ≤ s.size ∧ (s.size - q2) + 1 ≤ s.size - q1 ∧ r1.length = s.size - q2 by have := HQ1.out; have := HSL.out; omega)
      clear hin hq ecq hlq hKB hlk hq2
      cases ht : takeB 58 r1 with
      | error x =>
        rw [ht] at hmem
        have HX := Lib.hid hmem
        have HTK := Lib.hid (show takeB 58 (rest s q2) = .error x by rw [hr2]; exact ht)
        clear hmem ht hr2
        go_enter Tryz.func65, Tryz.ntmps65
        go_wp2_with (first | (go_at_call 38; refine CN.out.mono ?_; rintro e1 W1 ⟨rfl, hS, hT⟩; have S1 := Lib.hid hS; have T1 := Lib.hid hT; have K1 := Lib.hid (HKS.out.keep H.out hT (fun f => f)); obtain ⟨d0, d1, d2, d3, d4⟩ := hS.reads; clear hS hT) | (go_at_call 60; refine (CQ.out _ _ S1.out).mono ?_; rintro e1 W2 ⟨rfl, hS, hT⟩; have S2 := Lib.hid hS; have T2 := Lib.hid hT; have K2 := Lib.hid (K1.out.keep S1.out hT (fun f => f)); clear hS hT) | (at_lookup; refine lookup_step (v := .bool false) rfl (.tmp 23) (.tmp 24) 93 rfl rfl rfl (by have hlook := K2.out.look _ hkz; rw [hdec] at hlook; exact hlook) ?_) | (at_mapUpdate; obtain ⟨W3, hrun, hk3, hg3⟩ := K2.out.put _ hkz hkn; refine update_step rfl (.tmp 29) (.tmp 30) (.const (.bool true)) 93 rfl rfl rfl rfl hrun ?_; have K3 := Lib.hid hk3; have S3 := Lib.hid (S2.out.grown hg3 hgm hvm); have T3 := Lib.hid (stp_grown (g := g) (v := v) hg3); clear hrun hk3 hg3) | (go_at_call 79; refine (take_err S3.out (fun _ => False) hz2 58 (by decide) _ HTK.out).mono ?_; rintro e1 W4 ⟨rfl, ⟨q4, hS⟩, hT⟩; have S4 := Lib.hid hS; have T4 := Lib.hid hT; clear hS hT))
        go_ret
        exact ERes.mk_err HX.out S4.out ((stp0 (T1.out.trans T2.out)).trans (T3.out.trans (stp0 T4.out)))
      | ok t =>
        rw [ht] at hmem
        simp only at hmem
        have HTK := Lib.hid (show takeB 58 (rest s q2) = .ok t by rw [hr2]; exact ht)
        obtain ⟨c2, e2, _⟩ := takeB_ext ht
        have hl2 := congrArg List.length e2
        rw [List.length_append, List.length_cons] at hl2
        have hr3 := (rest_suffix (s := s) (p := q2) (c := c2 ++ [58]) (x := t) HL2.out.1 (by rw [hr2, e2]; simp)).1
        have hfv : o.length + (s.size - (s.size - t.length)) ≤ 4294967296 := by have := HF.out; have := HL2.out; have := HSL.out; have := HQ1.out; omega
        have CV := Lib.hid (fun W1 v1 (h1 : Sc W1 g base s (s.size - t.length) o c a v1) => HV.out W1 v1 _ o h1 hfv)
        rw [hr3] at CV
        have hdw : dep + 1 ≤ 101 := by omega
        cases hv : val t with
        | error x =>
          rw [hv] at CV hmem
          have HX := Lib.hid hmem
          clear hmem ht hr2 e2 hl2 hr3 hv hfv
          go_enter Tryz.func65, Tryz.ntmps65
          go_wp2_with (first | (go_at_call 38; refine CN.out.mono ?_; rintro e1 W1 ⟨rfl, hS, hT⟩; have S1 := Lib.hid hS; have T1 := Lib.hid hT; have K1 := Lib.hid (HKS.out.keep H.out hT (fun f => f)); obtain ⟨d0, d1, d2, d3, d4⟩ := hS.reads; clear hS hT) | (go_at_call 60; refine (CQ.out _ _ S1.out).mono ?_; rintro e1 W2 ⟨rfl, hS, hT⟩; have S2 := Lib.hid hS; have T2 := Lib.hid hT; have K2 := Lib.hid (K1.out.keep S1.out hT (fun f => f)); clear hS hT) | (at_lookup; refine lookup_step (v := .bool false) rfl (.tmp 23) (.tmp 24) 93 rfl rfl rfl (by have hlook := K2.out.look _ hkz; rw [hdec] at hlook; exact hlook) ?_) | (at_mapUpdate; obtain ⟨W3, hrun, hk3, hg3⟩ := K2.out.put _ hkz hkn; refine update_step rfl (.tmp 29) (.tmp 30) (.const (.bool true)) 93 rfl rfl rfl rfl hrun ?_; have K3 := Lib.hid hk3; have S3 := Lib.hid (S2.out.grown hg3 hgm hvm); have T3 := Lib.hid (stp_grown (g := g) (v := v) hg3); clear hrun hk3 hg3) | (go_at_call 79; refine (take_ok S3.out (fun _ => False) hz2 58 _ HTK.out).mono ?_; rintro e1 W4 ⟨rfl, hS, hT⟩; have S4 := Lib.hid hS; have T4 := Lib.hid hT; have K4 := Lib.hid (K3.out.keep S3.out hT (fun f => f)); clear hS hT) | (go_at_call 37; refine (CV.out _ _ S4.out).mono ?_; rintro e1 W5 ⟨q5, o5, v5, rfl, hS, hT⟩; have S5 := Lib.hid hS; have T5 := Lib.hid hT; clear hS hT))
          go_ret
          exact ERes.mk_err HX.out S5.out ((stp0 (T1.out.trans T2.out)).trans (T3.out.trans (stp0 (T4.out.trans T5.out))))
        | ok y =>
          obtain ⟨o3, r3⟩ := y
          rw [hv] at CV hmem
          simp only at hmem
          have HX := Lib.hid hmem
          have HPL := Lib.hid (show (o ++ o3).length ≤ 4294967296 by have := HVL.out _ _ _ hv; have := HL2.out; rw [List.length_append]; omega)
          clear hmem ht hr2 e2 hl2 hr3 hv hfv
          go_enter Tryz.func65, Tryz.ntmps65
          go_wp2_with (first | (go_at_call 38; refine CN.out.mono ?_; rintro e1 W1 ⟨rfl, hS, hT⟩; have S1 := Lib.hid hS; have T1 := Lib.hid hT; have K1 := Lib.hid (HKS.out.keep H.out hT (fun f => f)); obtain ⟨d0, d1, d2, d3, d4⟩ := hS.reads; clear hS hT) | (go_at_call 60; refine (CQ.out _ _ S1.out).mono ?_; rintro e1 W2 ⟨rfl, hS, hT⟩; have S2 := Lib.hid hS; have T2 := Lib.hid hT; have K2 := Lib.hid (K1.out.keep S1.out hT (fun f => f)); clear hS hT) | (at_lookup; refine lookup_step (v := .bool false) rfl (.tmp 23) (.tmp 24) 93 rfl rfl rfl (by have hlook := K2.out.look _ hkz; rw [hdec] at hlook; exact hlook) ?_) | (at_mapUpdate; obtain ⟨W3, hrun, hk3, hg3⟩ := K2.out.put _ hkz hkn; refine update_step rfl (.tmp 29) (.tmp 30) (.const (.bool true)) 93 rfl rfl rfl rfl hrun ?_; have K3 := Lib.hid hk3; have S3 := Lib.hid (S2.out.grown hg3 hgm hvm); have T3 := Lib.hid (stp_grown (g := g) (v := v) hg3); clear hrun hk3 hg3) | (go_at_call 79; refine (take_ok S3.out (fun _ => False) hz2 58 _ HTK.out).mono ?_; rintro e1 W4 ⟨rfl, hS, hT⟩; have S4 := Lib.hid hS; have T4 := Lib.hid hT; have K4 := Lib.hid (K3.out.keep S3.out hT (fun f => f)); clear hS hT) | (go_at_call 37; refine (CV.out _ _ S4.out).mono ?_; rintro e1 W5 ⟨v5, rfl, hS, hT⟩; have S5 := Lib.hid hS; have T5 := Lib.hid hT; have K5 := Lib.hid (K4.out.keep S4.out hT (fun f => f)); clear hS hT) | (go_at_call 61; refine (put_calls S5.out (fun _ => False) _ _ _ _ HPL.out).mono ?_; rintro e1 W6 ⟨v6, rfl, hS, hT⟩; have S6 := Lib.hid hS; have T6 := Lib.hid hT; have K6 := Lib.hid (K5.out.keep S5.out hT (fun f => f)); clear hS hT))
          go_ret
          exact ERes.mk_ok HX.out (by rw [← List.append_assoc, HKB.out]; exact S6.out) ((stp0 (T1.out.trans T2.out)).trans (T3.out.trans (stp0 ((T4.out.trans T5.out).trans T6.out)))) (by rw [← HLK.out]; exact K6.out)
end
end Go.Proofs.YtoefnmhmiphilaaGreatDoor.Tp

namespace Go.Proofs.YtoefnmhmiphilaaGreatDoor.Tp
open Go Go.RowKit Go.Maps Go.Proofs.YtoefnmhmiphilaaGreatDoorW.PrintWords
section
variable {W : World} {g base : Nat} {s : ByteArray} {p : Nat} {o : List Nd} {c a : Int} {v : Value}
structure Bx (W : World) (b g : Nat) (dep : Int) : Prop where
  x0 : W.heap[b]? = some (.cells #[.pointer (some ⟨g, 0, none⟩)] 62 (0, 0))
  x1 : W.heap[b + 1]? = some (.cells #[.int .i64 dep] 3 (0, 0))
theorem Bx.c0 {b : Nat} {dep : Int} (h : Bx W b g dep) : W.cell? ⟨b, 0, none⟩ = some (.pointer (some ⟨g, 0, none⟩)) := (blk_cell h.x0 0).trans rfl
theorem Bx.c1 {b : Nat} {dep : Int} (h : Bx W b g dep) : W.cell? ⟨b + 1, 0, none⟩ = some (.int .i64 dep) := (blk_cell h.x1 0).trans rfl
theorem Bx.keep {b : Nat} {dep : Int} {W' : World} {v' : Value} {X : Nat → Prop} (h : Bx W b g dep) (hS : Sc W g base s p o c a v) (hT : Stp X g W v W' v') (hX : ¬ X b ∧ ¬ X (b + 1)) : Bx W' b g dep :=
  ⟨hS.keep hT h.x0 hX.1 (fun cs t f e => by cases e; decide), hS.keep hT h.x1 hX.2 (fun cs t f e => by cases e; decide)⟩
theorem Bx.drewN {b : Nat} {dep : Int} (h : Bx W b g dep) (n : Nat) : Bx (W.drewN n) b g dep := ⟨h.x0, h.x1⟩
theorem Bx.drew {b : Nat} {dep : Int} (h : Bx W b g dep) : Bx W.drew b g dep := ⟨h.x0, h.x1⟩
theorem Bx.made (W : World) (g : Nat) (dep : Int) : Bx ((W.alloc (.cells #[.pointer (some ⟨g, 0, none⟩)] 62)).alloc (.cells #[.int .i64 dep] 3)) W.heap.size g dep := by
  refine ⟨blk_alloc (blk_new W _) _, ?_⟩
  have := blk_new (W.alloc (.cells #[.pointer (some ⟨g, 0, none⟩)] 62)) (.cells #[.int .i64 dep] 3)
  rw [World.size_alloc] at this
  exact this
abbrev X0 : Nat → Prop := fun _ => False
theorem eats_elem (d : Nat) : Eats (elem (value d)) := by
  intro st r o r1 st1 h
  obtain ⟨cc, e, n, _⟩ := (elem_ext (value_ext d)).2 st r o r1 st1 h
  have h1 := elem_len (value_len d) _ _ _ _ _ h
  refine ⟨cc, e, n, ?_⟩
  have := congrArg List.length e
  rw [List.length_append] at this; omega
theorem eats_member (d : Nat) : Eats (member (value d)) := by
  intro st r o r1 st1 h
  obtain ⟨cc, e, n, _⟩ := (member_ext (value_ext d)).2 st r o r1 st1 h
  have h1 := member_len (value_len d) _ _ _ _ _ h
  refine ⟨cc, e, n, ?_⟩
  have := congrArg List.length e
  rw [List.length_append] at this; omega
theorem keys_grow {v : List UInt8 → R (List Nd)} (hv : ValExt v) (N : Nat) (st : List (List UInt8)) (r : List UInt8) (o : List Nd) (r1 : List UInt8) (st1 : List (List UInt8)) (h : member v st r = .ok (o, r1, st1)) (hJ : st.length + r.length ≤ N) : st1.length + r1.length ≤ N := by
  obtain ⟨cc, e, n, _⟩ := (member_ext hv).2 st r o r1 st1 h
  have hl := congrArg List.length e
  rw [List.length_append] at hl
  have hc : 1 ≤ cc.length := by cases cc with | nil => exact absurd rfl n | cons => simp
  have hs : st1.length = st.length + 1 := by
    unfold member at h
    cases hq : quoted (skip r) with
    | error x => rw [hq] at h; cases h
    | ok y =>
      obtain ⟨key, q⟩ := y
      rw [hq] at h
      simp only at h
      by_cases hk : key ∈ st
      · rw [if_pos hk] at h; cases h
      · rw [if_neg hk] at h
        cases ht : takeB 58 q with
        | error x => rw [ht] at h; cases h
        | ok t =>
          rw [ht] at h
          simp only at h
          cases hv : v t with
          | error x => rw [hv] at h; cases h
          | ok y => rw [hv] at h; cases h; simp
  omega
def VC (d : Nat) : Prop := ∀ (W : World) (g base : Nat) (s : ByteArray) (p : Nat) (o : List Nd) (c a : Int) (v : Value), Sc W g base s p o c a v → s.size ≤ 70368744177664 → o.length + (s.size - p) ≤ 4294967296 →
  Calls Tryz.prog 37 #[.pointer (some ⟨g, 0, none⟩), .int .i64 (21 - (d : Int))] W (Res X0 g base s c a W v o (value d (rest s p)))
set_option maxHeartbeats 16000000 in
set_option maxRecDepth 100000 in
theorem closure1_calls (d : Nat) (hd : d ≤ 19) (hV : VC d) (b : Nat) (h : Sc W g base s p o c a v) (hb : Bx W b g (21 - ((d + 1 : Nat) : Int))) (hz : s.size ≤ 70368744177664) (hf : o.length + (s.size - p) ≤ 4294967296) :
    Calls Tryz.prog 63 #[.pointer (some ⟨b, 0, none⟩), .pointer (some ⟨b + 1, 0, none⟩)] W (ERes (fun (_ : Unit) W' => Bx W' b g (21 - ((d + 1 : Nat) : Int))) X0 g base s c a W v o (elem (value d) () (rest s p))) := by
  have CV := Lib.hid (hV W g base s p o c a v h hz hf)
  obtain ⟨dep, hdep⟩ : ∃ dep : Int, 21 - ((d + 1 : Nat) : Int) = dep := ⟨_, rfl⟩
  have hdd : (21 : Int) - (d : Int) = dep + 1 := by omega
  have hl : 1 ≤ dep := by omega
  have hu : dep ≤ 20 := by omega
  rw [hdd] at CV
  rw [hdep] at hb ⊢
  have b0 := hb.c0
  have b1 := hb.c1
  have HB := Lib.hid hb
  have HS := Lib.hid h
  have hel : elem (value d) () (rest s p) = match value d (rest s p) with | .error x => .error x | .ok (p, r1) => .ok (p, r1, ()) := rfl
  clear h hb hdep hdd
  cases hv : value d (rest s p) with
  | error x =>
    rw [hv] at hel CV
    have HX := Lib.hid hel
    clear hel hv
    go_enter Tryz.func63, Tryz.ntmps63
    go_wp2_with (first | (go_at_call 37; refine CV.out.mono ?_; rintro e1 W1 ⟨q1, o1, v1, rfl, hS, hT⟩; have S1 := Lib.hid hS; have T1 := Lib.hid hT; clear hS hT))
    go_ret
    exact ERes.mk_err HX.out S1.out T1.out
  | ok y =>
    obtain ⟨o1, r1⟩ := y
    rw [hv] at hel CV
    have HX := Lib.hid hel
    clear hel hv
    go_enter Tryz.func63, Tryz.ntmps63
    go_wp2_with (first | (go_at_call 37; refine CV.out.mono ?_; rintro e1 W1 ⟨v1, rfl, hS, hT⟩; have S1 := Lib.hid hS; have T1 := Lib.hid hT; have B1 := Lib.hid (HB.out.keep HS.out hT ⟨fun f => f, fun f => f⟩); clear hS hT))
    go_ret
    exact ERes.mk_ok HX.out S1.out T1.out B1.out
set_option maxHeartbeats 16000000 in
set_option maxRecDepth 100000 in
theorem closure2_calls (d : Nat) (hd : d ≤ 19) (hV : VC d) (b kb mb : Nat) (ks : List (List UInt8)) (h : Sc W g base s p o c a v) (hb : Bx W b g (21 - ((d + 1 : Nat) : Int))) (hkb : W.heap[kb]? = some (.cells #[.map (some mb)] 93 (0, 0))) (hk : Keys W mb ks) (hz : s.size ≤ 70368744177664) (hf : o.length + (s.size - p) ≤ 4294967296) (hJ : ks.length ≤ s.size) :
    Calls Tryz.prog 64 #[.pointer (some ⟨b, 0, none⟩), .pointer (some ⟨kb, 0, none⟩), .pointer (some ⟨b + 1, 0, none⟩)] W (ERes (fun ks W' => Bx W' b g (21 - ((d + 1 : Nat) : Int)) ∧ W'.heap[kb]? = some (.cells #[.map (some mb)] 93 (0, 0)) ∧ Keys W' mb ks) (fun i => i = mb) g base s c a W v o (member (value d) ks (rest s p))) := by
  have hbm : b ≠ mb ∧ b + 1 ≠ mb ∧ kb ≠ mb := by
    obtain ⟨D, ⟨es, clock, h1, _⟩, _⟩ := hk
    refine ⟨fun e => ?_, fun e => ?_, fun e => ?_⟩
    · have := hb.x0; rw [e, h1] at this; cases this
    · have := hb.x1; rw [e, h1] at this; cases this
    · rw [e, h1] at hkb; cases hkb
  obtain ⟨dep, hdep⟩ : ∃ dep : Int, 21 - ((d + 1 : Nat) : Int) = dep := ⟨_, rfl⟩
  have hdd : (21 : Int) - (d : Int) = dep + 1 := by omega
  have CM := Lib.hid (member_calls h hz mb ks hk hJ dep (by omega) (by omega) (value d) (value_len d) (fun W1 v1 q o1 h1 hf1 => by rw [← hdd]; exact hV W1 g base s q o1 c a v1 h1 hz hf1) hf)
  rw [hdep] at hb ⊢
  have b0 := hb.c0
  have b1 := hb.c1
  have b2 : W.cell? ⟨kb, 0, none⟩ = some (.map (some mb)) := (blk_cell hkb 0).trans rfl
  have HB := Lib.hid hb
  have HS := Lib.hid h
  have HKB := Lib.hid hkb
  have hbm1 : ¬ b = mb := hbm.1
  have hbm2 : ¬ b + 1 = mb := hbm.2.1
  have hbm3 := Lib.hid hbm
  have CM2 : Hid (Calls Tryz.prog 65 #[.pointer (some ⟨g, 0, none⟩), .map (some mb), .int .i64 dep] W fun r W' => ∃ bb, r = .returned (.bool bb) ∧ ERes (fun ks W' => Bx W' b g dep ∧ W'.heap[kb]? = some (.cells #[.map (some mb)] 93 (0, 0)) ∧ Keys W' mb ks) (fun i => i = mb) g base s c a W v o (member (value d) ks (rest s p)) (.returned (.bool bb)) W') := by
    refine Lib.hid (CM.out.mono ?_)
    intro r W' hr
    cases hm : member (value d) ks (rest s p) with
    | error x =>
      rw [hm] at hr
      obtain ⟨q1, o1, v1, rfl, hS, hT⟩ := hr
      exact ⟨false, rfl, q1, o1, v1, rfl, hS, hT⟩
    | ok y =>
      obtain ⟨o1, r1, st1⟩ := y
      rw [hm] at hr
      obtain ⟨v1, rfl, hS, hT, hK⟩ := hr
      exact ⟨true, rfl, v1, rfl, hS, hT, HB.out.keep HS.out hT ⟨hbm.1, hbm.2.1⟩, HS.out.keep hT HKB.out hbm.2.2 (fun cs t f e => by cases e; decide), hK⟩
  clear h hb hdep hdd hkb hk CM hbm
  go_enter Tryz.func64, Tryz.ntmps64
  go_wp2_with (first | (go_at_call 65; refine CM2.out.mono ?_; rintro e1 W1 ⟨bb, rfl, hR⟩; have HR := Lib.hid hR; clear hR))
  go_ret
  exact HR.out
end
end Go.Proofs.YtoefnmhmiphilaaGreatDoor.Tp

namespace Go.Proofs.YtoefnmhmiphilaaGreatDoor.Tp
open Go Go.RowKit Go.Maps Go.Proofs.YtoefnmhmiphilaaGreatDoorW.PrintWords
section
variable {W : World} {g base : Nat} {s : ByteArray} {p : Nat} {o : List Nd} {c a : Int} {v : Value}
theorem Res.from {X : Nat → Prop} {W1 W' : World} {v1 : Value} {x : R (List Nd)} {r : Ending} (h : Res X g base s c a W1 v1 o x r W') (ht : Stp X g W v W1 v1) : Res X g base s c a W v o x r W' := by
  cases x with
  | error e => obtain ⟨q, o2, v2, rfl, h1, h2⟩ := h; exact ⟨q, o2, v2, rfl, h1, ht.trans h2⟩
  | ok y => obtain ⟨o1, r1⟩ := y; obtain ⟨v2, rfl, h1, h2⟩ := h; exact ⟨v2, rfl, h1, ht.trans h2⟩
theorem Res.split {X : Nat → Prop} {W' : World} {x : R (List Nd)} {r : Ending} (h : Res X g base s c a W v o x r W') : ∃ bb, r = .returned (.bool bb) ∧ Res X g base s c a W v o x (.returned (.bool bb)) W' := by
  cases x with
  | error e => obtain ⟨q, o2, v2, rfl, h1, h2⟩ := h; exact ⟨_, rfl, q, o2, v2, rfl, h1, h2⟩
  | ok y => obtain ⟨o1, r1⟩ := y; obtain ⟨v2, rfl, h1, h2⟩ := h; exact ⟨_, rfl, v2, rfl, h1, h2⟩
theorem Bx.alloc {b : Nat} {dep : Int} (h : Bx W b g dep) (ob : Obj) : Bx (W.alloc ob) b g dep := ⟨blk_alloc h.x0 _, blk_alloc h.x1 _⟩
theorem RRes.back {X Y : Nat → Prop} {W1 W' : World} {x : Except (Int × Nat) (List Nd × List UInt8 × Int)} {r : Ending} (h : RRes Y g base s c a W1 v o x r W') (ht : Stp X g W v W1 v) (hY : ∀ i, i < W.heap.size → ¬ Y i) : RRes X g base s c a W v o x r W' := by
  have key : ∀ v', Stp Y g W1 v W' v' → Stp X g W v W' v' := fun v' k => ⟨ht.kp.trans k.kp (fun i hi e => by
    rcases e with e | e | e
    · exact .inl e
    · exact .inr (.inl e)
    · exact absurd e (hY i hi)), fun i hi => by
    rcases k.own i hi with h1 | h1
    · exact .inl h1
    · exact .inr (Nat.le_trans ht.kp.size h1)⟩
  cases x with
  | error e => obtain ⟨q, o2, v2, m, rfl, h1, h2⟩ := h; exact ⟨q, o2, v2, m, rfl, h1, key _ h2⟩
  | ok y => obtain ⟨o1, r1, n⟩ := y; obtain ⟨v2, rfl, h1, h2⟩ := h; exact ⟨v2, rfl, h1, key _ h2⟩
theorem value_head (d : Nat) {r : List UInt8} {b : UInt8} {t : List UInt8} (hs : skip r = b :: t) : value (d + 1) r = if small b then word (b :: t) else if digit b || b == 45 then number (b :: t) else if b = 34 then (match str t [] with | .error x => .error x | .ok (s, r1) => .ok ([⟨4, ⟨s.toArray⟩, 0, 0⟩], r1)) else if b = 91 then (match rows 93 (elem (value d)) () t with | .error x => .error x | .ok (o, r1, n) => .ok (o ++ [nd 5 0 n], r1)) else if b = 123 then (match rows 125 (member (value d)) [] t with | .error x => .error x | .ok (o, r1, n) => .ok (o ++ [nd 7 0 n], r1)) else .error (10, t.length + 1) := by
  unfold value
  rw [hs]
  rfl
set_option maxHeartbeats 32000000 in
set_option maxRecDepth 100000 in
theorem value_step (d : Nat) (hd : d ≤ 20) (ih : ∀ d', d = d' + 1 → VC d') : VC d := by
  intro W g base s p o c a v h hz hf
  have hz2 : s.size ≤ 4611686018427387904 := by omega
  have hp := h.le
  have hfl : o.length ≤ 4294967296 := by omega
  obtain ⟨dep, hdep⟩ : ∃ dep : Int, (21 : Int) - (d : Int) = dep := ⟨_, rfl⟩
  rw [hdep]
  have S2 := Lib.hid ((h.alloc (.cells #[.pointer (some ⟨g, 0, none⟩)] 62)).alloc (.cells #[.int .i64 dep] 3))
  have T2 : Hid (Stp X0 g W v ((W.alloc (.cells #[.pointer (some ⟨g, 0, none⟩)] 62)).alloc (.cells #[.int .i64 dep] 3)) v) := Lib.hid (((Stp.refl X0 g W v).alloc _).alloc _)
  have B2 := Lib.hid (Bx.made W g dep)
  have CN := Lib.hid (next_calls S2.out X0 hz2)
  have hrs := rest_skip hp
  have hsl := skip_le (rest s p)
  rw [rest_len] at hsl
  have HF := Lib.hid hf
  cases hs : skip (rest s p) with
  | nil =>
    rw [hs] at CN hrs
    rw [show top [] = 0 from rfl, show s.size - ([] : List UInt8).length = s.size from rfl] at CN
    rw [show s.size - ([] : List UInt8).length = s.size from rfl] at hrs
    have hx : value d (rest s p) = .error (11, 0) := by cases d <;> (unfold value; rw [hs])
    have HX := Lib.hid hx
    have HO := Lib.hid (show odd (rest s s.size) = (11, 0) by rw [hrs]; rfl)
    have d9 : (s.size : Int) ≤ (s.size : Int) := Int.le_refl _
    clear h hrs hsl hs hf hx ih hdep
    go_enter Tryz.func37, Tryz.ntmps37
    go_wp2_with (first | (go_at_call 38; refine CN.out.mono ?_; rintro e1 W3 ⟨rfl, hS, hT⟩; have S3 := Lib.hid hS; have T3 := Lib.hid (T2.out.trans hT); have B3 := Lib.hid (B2.out.keep S2.out hT ⟨fun f => f, fun f => f⟩); have b0 := B3.out.c0; have b1 := B3.out.c1; obtain ⟨d0, d1, d2, d3, d4⟩ := hS.reads; clear hS hT))
    go_quiet (fail)
    go_wp2_with (first | (go_at_call 39; refine (odd_calls (S3.out.drewN _) X0).mono ?_; rintro e1 W4 ⟨rfl, hS, hT⟩; have S4 := Lib.hid hS; have T4 := Lib.hid hT; clear hS hT))
    go_ret
    have h4 := S4.out
    rw [HO.out] at h4
    exact Res.mk_err HX.out h4 ((T3.out.drewN _).trans T4.out)
  | cons b t =>
    rw [hs] at CN hrs hsl
    rw [show top (b :: t) = (b.toNat : Int) from rfl] at CN
    rw [List.length_cons] at hsl
    obtain ⟨q, hq⟩ : ∃ q, s.size - (b :: t).length = q := ⟨_, rfl⟩
    rw [hq] at CN hrs
    rw [List.length_cons] at hq
    have hlt := rest_lt hrs
    have hpq : p ≤ q := by omega
    have HRS := Lib.hid hrs
    have HQ := Lib.hid (show s.size - q = t.length + 1 by omega)
    have d9 : decide ((s.size : Int) ≤ (q : Int)) = false := by simp; omega
    have HNX : Hid (∀ K : World → Prop, True) := Lib.hid (fun _ => trivial)
    cases d with
    | zero =>
      have hx : value 0 (rest s p) = .error (12, t.length + 1) := by unfold value; rw [hs]
      have HX := Lib.hid hx
      have d8 : (20 : Int) < dep := by omega
      have he : ((s.size : Int) - ((t.length + 1 : Nat) : Int)) = (q : Int) := by omega
      have HE := Lib.hid he
      clear h hrs hsl hs hf hx ih hdep hq he
      go_enter Tryz.func37, Tryz.ntmps37
      go_wp2_with (first | (go_at_call 38; refine CN.out.mono ?_; rintro e1 W3 ⟨rfl, hS, hT⟩; have S3 := Lib.hid hS; have T3 := Lib.hid (T2.out.trans hT); have B3 := Lib.hid (B2.out.keep S2.out hT ⟨fun f => f, fun f => f⟩); have b0 := B3.out.c0; have b1 := B3.out.c1; obtain ⟨d0, d1, d2, d3, d4⟩ := hS.reads; clear hS hT))
      go_quiet (fail)
      go_wp2_with fail
      have S4 := Lib.hid (S3.out.drewN nq)
      have T4 := Lib.hid (T3.out.drewN nq)
      have B4 := Lib.hid (B3.out.drewN nq)
      clear S3 T3 B3 b0 b1 d0 d1 d2 d3 d4
      revert S4 T4 B4
      generalize W3.drewN nq = W4
      intro S4 T4 B4
      have b0 := B4.out.c0
      have b1 := B4.out.c1
      obtain ⟨d0, d1, d2, d3, d4⟩ := S4.out.reads
      go_still_tail 5, (by kernel_rfl)
      change wpList _ _ _ _ _ W4.drew
      go_wp2_with (first | (go_at_call 55; refine (stop_calls S4.out.drew X0 _ _).mono ?_; rintro e1 W5 ⟨rfl, hS, hT⟩; have S5 := Lib.hid hS; have T5 := Lib.hid hT; clear hS hT))
      go_ret
      exact Res.mk_err HX.out (by rw [HE.out]; exact S5.out) (T4.out.drew.trans T5.out)
    | succ d =>
      have hx := value_head d hs
      have d8 : decide ((20 : Int) < dep) = false := by simp; omega
      have HDEP := Lib.hid hdep
      have HHF := Lib.hid hf
      have HPQ := Lib.hid hpq
      have IH := Lib.hid (ih d rfl)
      have hd19 : d ≤ 19 := by omega
      clear ih
      cases h1 : small b with
      | true =>
        rw [if_pos h1] at hx
        have HX := Lib.hid hx
        clear h hrs hsl hs hf hx hdep hq
        go_enter Tryz.func37, Tryz.ntmps37
        go_wp2_with (first | (go_at_call 38; refine CN.out.mono ?_; rintro e1 W3 ⟨rfl, hS, hT⟩; have S3 := Lib.hid hS; have T3 := Lib.hid (T2.out.trans hT); have B3 := Lib.hid (B2.out.keep S2.out hT ⟨fun f => f, fun f => f⟩); have b0 := B3.out.c0; have b1 := B3.out.c1; obtain ⟨d0, d1, d2, d3, d4⟩ := hS.reads; clear hS hT))
        go_quiet (fail)
        go_wp2_with fail
        have S4 := Lib.hid (S3.out.drewN nq)
        have T4 := Lib.hid (T3.out.drewN nq)
        have B4 := Lib.hid (B3.out.drewN nq)
        clear S3 T3 B3 b0 b1 d0 d1 d2 d3 d4
        revert S4 T4 B4
        generalize W3.drewN nq = W4
        intro S4 T4 B4
        have b0 := B4.out.c0
        have b1 := B4.out.c1
        go_wp2_with (first | (go_at_call 56; refine (small_calls b _).mono ?_; rintro e1 W' ⟨rfl, rfl⟩) | (go_at_call 57; refine ((word_calls S4.out X0 hz2 hfl).mono (fun _ _ hh => hh.split)).mono ?_; rintro e1 W5 ⟨bb, rfl, hR⟩; have HR := Lib.hid hR; clear hR))
        go_ret
        have h5 := HR.out
        rw [HRS.out] at h5
        rw [HX.out]
        exact h5.from T4.out
      | false =>
        rw [if_neg (by rw [h1]; simp)] at hx
        cases h2 : digit b with
        | true =>
          rw [if_pos (by rw [h2]; rfl)] at hx
          have HX := Lib.hid hx
          clear h hrs hsl hs hf hx hdep hq
          go_enter Tryz.func37, Tryz.ntmps37
          go_wp2_with (first | (go_at_call 38; refine CN.out.mono ?_; rintro e1 W3 ⟨rfl, hS, hT⟩; have S3 := Lib.hid hS; have T3 := Lib.hid (T2.out.trans hT); have B3 := Lib.hid (B2.out.keep S2.out hT ⟨fun f => f, fun f => f⟩); have b0 := B3.out.c0; have b1 := B3.out.c1; obtain ⟨d0, d1, d2, d3, d4⟩ := hS.reads; clear hS hT))
          go_quiet (fail)
          go_wp2_with fail
          have S4 := Lib.hid (S3.out.drewN nq)
          have T4 := Lib.hid (T3.out.drewN nq)
          have B4 := Lib.hid (B3.out.drewN nq)
          clear S3 T3 B3 b0 b1 d0 d1 d2 d3 d4
          revert S4 T4 B4
          generalize W3.drewN nq = W4
          intro S4 T4 B4
          have b0 := B4.out.c0
          have b1 := B4.out.c1
          go_wp2_with (first | (go_at_call 56; refine (small_calls b _).mono ?_; rintro e1 W' ⟨rfl, rfl⟩) | (go_at_call 58; refine (digit_calls b _).mono ?_; rintro e1 W' ⟨rfl, rfl⟩) | (go_at_call 59; refine ((number_calls S4.out X0 hz2 hfl b t HRS.out).mono (fun _ _ hh => hh.split)).mono ?_; rintro e1 W5 ⟨bb, rfl, hR⟩; have HR := Lib.hid hR; clear hR))
          go_ret
          have h5 := HR.out
          rw [HRS.out] at h5
          rw [HX.out]
          exact h5.from T4.out
        | false =>
          by_cases h45 : b = 45
          · have t45 : ((b.toNat : Int) == 45) = true := by rw [h45]; rfl
            rw [if_pos (by rw [h45]; rfl)] at hx
            have HX := Lib.hid hx
            clear h hrs hsl hs hf hx hdep hq h45
            go_enter Tryz.func37, Tryz.ntmps37
            go_wp2_with (first | (go_at_call 38; refine CN.out.mono ?_; rintro e1 W3 ⟨rfl, hS, hT⟩; have S3 := Lib.hid hS; have T3 := Lib.hid (T2.out.trans hT); have B3 := Lib.hid (B2.out.keep S2.out hT ⟨fun f => f, fun f => f⟩); have b0 := B3.out.c0; have b1 := B3.out.c1; obtain ⟨d0, d1, d2, d3, d4⟩ := hS.reads; clear hS hT))
            go_quiet (fail)
            go_wp2_with fail
            have S4 := Lib.hid (S3.out.drewN nq)
            have T4 := Lib.hid (T3.out.drewN nq)
            have B4 := Lib.hid (B3.out.drewN nq)
            clear S3 T3 B3 b0 b1 d0 d1 d2 d3 d4
            revert S4 T4 B4
            generalize W3.drewN nq = W4
            intro S4 T4 B4
            have b0 := B4.out.c0
            have b1 := B4.out.c1
            go_wp2_with (first | (go_at_call 56; refine (small_calls b _).mono ?_; rintro e1 W' ⟨rfl, rfl⟩) | (go_at_call 58; refine (digit_calls b _).mono ?_; rintro e1 W' ⟨rfl, rfl⟩) | (go_at_call 59; refine ((number_calls S4.out X0 hz2 hfl b t HRS.out).mono (fun _ _ hh => hh.split)).mono ?_; rintro e1 W5 ⟨bb, rfl, hR⟩; have HR := Lib.hid hR; clear hR))
            go_ret
            have h5 := HR.out
            rw [HRS.out] at h5
            rw [HX.out]
            exact h5.from T4.out
          · have t45 : ((b.toNat : Int) == 45) = false := u8_ne (y := 45) h45
            have h45b : (b == 45) = false := by simpa using h45
            rw [if_neg (by rw [h2, h45b]; simp)] at hx
            by_cases h34 : b = 34
            · have t34 : ((b.toNat : Int) == 34) = true := by rw [h34]; rfl
              rw [if_pos h34] at hx
              have CQ := Lib.hid (fun W1 v1 (h1 : Sc W1 g base s q o c a v1) => quoted_calls h1 X0 hz)
              have hqd : quoted (rest s q) = str t [] := by
                rw [hrs, h34]
                unfold quoted takeB
                rw [skip_nb (by decide)]
                simp
              rw [hqd] at CQ
              cases hst : str t [] with
              | error x =>
                rw [hst] at hx CQ
                have HX := Lib.hid hx
                clear h hrs hsl hs hf hx hdep hq h34 hqd hst h45 h45b
                go_enter Tryz.func37, Tryz.ntmps37
                go_wp2_with (first | (go_at_call 38; refine CN.out.mono ?_; rintro e1 W3 ⟨rfl, hS, hT⟩; have S3 := Lib.hid hS; have T3 := Lib.hid (T2.out.trans hT); have B3 := Lib.hid (B2.out.keep S2.out hT ⟨fun f => f, fun f => f⟩); have b0 := B3.out.c0; have b1 := B3.out.c1; obtain ⟨d0, d1, d2, d3, d4⟩ := hS.reads; clear hS hT))
                go_quiet (fail)
                go_wp2_with fail
                have S4 := Lib.hid (S3.out.drewN nq)
                have T4 := Lib.hid (T3.out.drewN nq)
                have B4 := Lib.hid (B3.out.drewN nq)
                clear S3 T3 B3 b0 b1 d0 d1 d2 d3 d4
                revert S4 T4 B4
                generalize W3.drewN nq = W4
                intro S4 T4 B4
                have b0 := B4.out.c0
                have b1 := B4.out.c1
                go_wp2_with (first | (go_at_call 56; refine (small_calls b _).mono ?_; rintro e1 W' ⟨rfl, rfl⟩) | (go_at_call 58; refine (digit_calls b _).mono ?_; rintro e1 W' ⟨rfl, rfl⟩) | (go_at_call 60; refine (CQ.out _ _ S4.out).mono ?_; rintro e1 W5 ⟨q5, rfl, hS, hT⟩; have S5 := Lib.hid hS; have T5 := Lib.hid hT; clear hS hT))
                go_ret
                exact Res.mk_err HX.out S5.out (T4.out.trans T5.out)
              | ok y =>
                obtain ⟨acc, r1⟩ := y
                rw [hst] at hx CQ
                have HX := Lib.hid hx
                clear h hrs hsl hs hf hx hdep hq h34 hqd hst h45 h45b
                go_enter Tryz.func37, Tryz.ntmps37
                go_wp2_with (first | (go_at_call 38; refine CN.out.mono ?_; rintro e1 W3 ⟨rfl, hS, hT⟩; have S3 := Lib.hid hS; have T3 := Lib.hid (T2.out.trans hT); have B3 := Lib.hid (B2.out.keep S2.out hT ⟨fun f => f, fun f => f⟩); have b0 := B3.out.c0; have b1 := B3.out.c1; obtain ⟨d0, d1, d2, d3, d4⟩ := hS.reads; clear hS hT))
                go_quiet (fail)
                go_wp2_with fail
                have S4 := Lib.hid (S3.out.drewN nq)
                have T4 := Lib.hid (T3.out.drewN nq)
                have B4 := Lib.hid (B3.out.drewN nq)
                clear S3 T3 B3 b0 b1 d0 d1 d2 d3 d4
                revert S4 T4 B4
                generalize W3.drewN nq = W4
                intro S4 T4 B4
                have b0 := B4.out.c0
                have b1 := B4.out.c1
                go_wp2_with (first | (go_at_call 56; refine (small_calls b _).mono ?_; rintro e1 W' ⟨rfl, rfl⟩) | (go_at_call 58; refine (digit_calls b _).mono ?_; rintro e1 W' ⟨rfl, rfl⟩) | (go_at_call 60; refine (CQ.out _ _ S4.out).mono ?_; rintro e1 W5 ⟨rfl, hS, hT⟩; have S5 := Lib.hid hS; have T5 := Lib.hid hT; have B5 := Lib.hid (B4.out.keep S4.out hT ⟨fun f => f, fun f => f⟩); clear b0 b1; have b0 := B5.out.c0; clear hS hT) | (go_at_call 61; refine (put_calls S5.out X0 _ _ _ _ hfl).mono ?_; rintro e1 W6 ⟨v6, rfl, hS, hT⟩; have S6 := Lib.hid hS; have T6 := Lib.hid hT; clear hS hT))
                go_ret
                exact Res.mk_ok HX.out S6.out ((T4.out.trans T5.out).trans T6.out)
            · have t34 : ((b.toNat : Int) == 34) = false := u8_ne (y := 34) h34
              rw [if_neg h34] at hx
              by_cases h91 : b = 91
              · have t91 : ((b.toNat : Int) == 91) = true := by rw [h91]; rfl
                rw [if_pos h91] at hx
                have CRX : Hid (∀ W4 v4, Sc W4 g base s q o c a v4 → Bx W4 W.heap.size g dep → Calls Tryz.prog 62 #[.pointer (some ⟨g, 0, none⟩), .int .u8 93, .func (.func 63) #[] #[.pointer (some ⟨W.heap.size, 0, none⟩), .pointer (some ⟨W.heap.size + 1, 0, none⟩)]] W4 (RRes X0 g base s c a W4 v4 o (rows 93 (elem (value d)) () t))) := Lib.hid (fun W4 v4 h4 hb4 =>
                  row_calls h4 X0 hz 93 (.inl rfl) (elem (value d)) (eats_elem d) 63 _ Tryz.func63 (by kernel_rfl) (by rfl) _ (fun _ W' => Bx W' W.heap.size g dep) (fun _ _ => True) (fun _ _ _ _ _ => trivial) (fun _ _ _ _ _ _ _ => trivial) () hb4
                    (fun st W1 v1 W2 v2 q o1 h1 hb hT => hb.keep h1 hT ⟨fun f => f, fun f => f⟩) (fun st W1 v1 q o1 h1 hI _ hf1 => by rw [← HDEP.out] at hI ⊢; exact closure1_calls d hd19 IH.out W.heap.size h1 hI hz hf1) b t HRS.out trivial (by have := HHF.out; have := HPQ.out; omega))
                cases hrw : rows 93 (elem (value d)) () t with
                | error x =>
                  rw [hrw] at hx CRX
                  have HX := Lib.hid hx
                  clear h hrs hsl hs hf hx hdep hq h34 hrw h45 h45b h91
                  go_enter Tryz.func37, Tryz.ntmps37
                  go_wp2_with (first | (go_at_call 38; refine CN.out.mono ?_; rintro e1 W3 ⟨rfl, hS, hT⟩; have S3 := Lib.hid hS; have T3 := Lib.hid (T2.out.trans hT); have B3 := Lib.hid (B2.out.keep S2.out hT ⟨fun f => f, fun f => f⟩); have b0 := B3.out.c0; have b1 := B3.out.c1; obtain ⟨d0, d1, d2, d3, d4⟩ := hS.reads; clear hS hT))
                  go_quiet (fail)
                  go_wp2_with fail
                  have S4 := Lib.hid (S3.out.drewN nq)
                  have T4 := Lib.hid (T3.out.drewN nq)
                  have B4 := Lib.hid (B3.out.drewN nq)
                  clear S3 T3 B3 b0 b1 d0 d1 d2 d3 d4
                  revert S4 T4 B4
                  generalize W3.drewN nq = W4
                  intro S4 T4 B4
                  have b0 := B4.out.c0
                  have b1 := B4.out.c1
                  have CR := Lib.hid (CRX.out _ _ S4.out B4.out)
                  go_wp2_with (first | (go_at_call 56; refine (small_calls b _).mono ?_; rintro e1 W' ⟨rfl, rfl⟩) | (go_at_call 58; refine (digit_calls b _).mono ?_; rintro e1 W' ⟨rfl, rfl⟩) | (go_at_call 62; refine CR.out.mono ?_; rintro e1 W5 ⟨q5, o5, v5, m5, rfl, hS, hT⟩; have S5 := Lib.hid hS; have T5 := Lib.hid hT; clear hS hT))
                  go_ret
                  exact Res.mk_err HX.out S5.out (T4.out.trans T5.out)
                | ok y =>
                  obtain ⟨o5, r1, n5⟩ := y
                  have hfl5 : (o ++ o5).length ≤ 4294967296 := by have := rows_len (elem_len (value_len d)) hrw; have := HHF.out; have := HQ.out; have := HPQ.out; rw [List.length_append]; omega
                  rw [hrw] at hx CRX
                  have HX := Lib.hid hx
                  clear h hrs hsl hs hf hx hdep hq h34 hrw h45 h45b h91
                  go_enter Tryz.func37, Tryz.ntmps37
                  go_wp2_with (first | (go_at_call 38; refine CN.out.mono ?_; rintro e1 W3 ⟨rfl, hS, hT⟩; have S3 := Lib.hid hS; have T3 := Lib.hid (T2.out.trans hT); have B3 := Lib.hid (B2.out.keep S2.out hT ⟨fun f => f, fun f => f⟩); have b0 := B3.out.c0; have b1 := B3.out.c1; obtain ⟨d0, d1, d2, d3, d4⟩ := hS.reads; clear hS hT))
                  go_quiet (fail)
                  go_wp2_with fail
                  have S4 := Lib.hid (S3.out.drewN nq)
                  have T4 := Lib.hid (T3.out.drewN nq)
                  have B4 := Lib.hid (B3.out.drewN nq)
                  clear S3 T3 B3 b0 b1 d0 d1 d2 d3 d4
                  revert S4 T4 B4
                  generalize W3.drewN nq = W4
                  intro S4 T4 B4
                  have b0 := B4.out.c0
                  have b1 := B4.out.c1
                  have CR := Lib.hid (CRX.out _ _ S4.out B4.out)
                  go_wp2_with (first | (go_at_call 56; refine (small_calls b _).mono ?_; rintro e1 W' ⟨rfl, rfl⟩) | (go_at_call 58; refine (digit_calls b _).mono ?_; rintro e1 W' ⟨rfl, rfl⟩) | (go_at_call 62; refine CR.out.mono ?_; rintro e1 W5 ⟨v5, rfl, hS, hT⟩; have S5 := Lib.hid hS; have T5 := Lib.hid hT; have B5 := Lib.hid (B4.out.keep S4.out hT ⟨fun f => f, fun f => f⟩); clear b0 b1; have b0 := B5.out.c0; clear hS hT) | (go_at_call 61; refine (put_calls S5.out X0 _ _ _ _ hfl5).mono ?_; rintro e1 W6 ⟨v6, rfl, hS, hT⟩; have S6 := Lib.hid hS; have T6 := Lib.hid hT; clear hS hT))
                  go_ret
                  exact Res.mk_ok HX.out (by rw [← List.append_assoc]; exact S6.out) ((T4.out.trans T5.out).trans T6.out)
              · have t91 : ((b.toNat : Int) == 91) = false := u8_ne (y := 91) h91
                rw [if_neg h91] at hx
                by_cases h123 : b = 123
                · have t123 : ((b.toNat : Int) == 123) = true := by rw [h123]; rfl
                  rw [if_pos h123] at hx
                  have hmm := @run_makeMap Tryz.prog
                  have CRX : Hid (∀ W4 v4, Sc W4 g base s q o c a v4 → Bx W4 W.heap.size g dep → Calls Tryz.prog 62 #[.pointer (some ⟨g, 0, none⟩), .int .u8 125, .func (.func 64) #[] #[.pointer (some ⟨W.heap.size, 0, none⟩), .pointer (some ⟨W4.heap.size + 1, 0, none⟩), .pointer (some ⟨W.heap.size + 1, 0, none⟩)]] ((W4.alloc (.map #[] 0)).alloc (.cells #[.map (some W4.heap.size)] 93)) (RRes X0 g base s c a W4 v4 o (rows 125 (member (value d)) [] t))) := Lib.hid (fun W4 v4 h4 hb4 => by
                    have hm0 : Keys ((W4.alloc (.map #[] 0)).alloc (.cells #[.map (some W4.heap.size)] 93)) W4.heap.size [] := (Keys.made W4).same (Below.heap_alloc _ _ _ (by simp))
                    have hk0 := blk_new (W4.alloc (.map #[] 0)) (.cells #[.map (some W4.heap.size)] 93)
                    rw [World.size_alloc] at hk0
                    refine (row_calls ((h4.alloc _).alloc _) (fun i => i = W4.heap.size) hz 125 (.inr rfl) (member (value d)) (eats_member d) 64 _ Tryz.func64 (by kernel_rfl) (by rfl) _
                      (fun ks W' => Bx W' W.heap.size g dep ∧ W'.heap[W4.heap.size + 1]? = some (.cells #[.map (some W4.heap.size)] 93 (0, 0)) ∧ Keys W' W4.heap.size ks) (fun ks n => ks.length + n ≤ s.size) (fun _ _ _ h1 h2 => by omega) (fun st r o r1 st1 h1 h2 => keys_grow (value_ext d) _ st r o r1 st1 h1 h2) [] ⟨(hb4.alloc _).alloc _, hk0, hm0⟩
                      (fun st W1 v1 W2 v2 q o1 h1 hi hT => ⟨hi.1.keep h1 hT ⟨fun f => f, fun f => f⟩, h1.keep hT hi.2.1 (fun f => f) (fun cs t f e => by cases e; decide), hi.2.2.keep h1 hT (fun f => f)⟩)
                      (fun ks W1 v1 q o1 h1 hi hJ hf1 => by rw [← HDEP.out] at hi ⊢; exact closure2_calls d hd19 IH.out W.heap.size (W4.heap.size + 1) W4.heap.size ks h1 hi.1 hi.2.1 hi.2.2 hz hf1 (by omega)) b t HRS.out (by have := HQ.out; simp; omega) (by have := HHF.out; have := HPQ.out; omega)).mono ?_
                    intro r W' hr
                    exact hr.back (((Stp.refl X0 g W4 v4).alloc _).alloc _) (fun i hi e => by omega))
                  cases hrw : rows 125 (member (value d)) [] t with
                  | error x =>
                    rw [hrw] at hx CRX
                    have HX := Lib.hid hx
                    clear h hrs hsl hs hf hx hdep hq h34 hrw h45 h45b h91 h123
                    go_enter Tryz.func37, Tryz.ntmps37
                    go_wp2_with (first | (go_at_call 38; refine CN.out.mono ?_; rintro e1 W3 ⟨rfl, hS, hT⟩; have S3 := Lib.hid hS; have T3 := Lib.hid (T2.out.trans hT); have B3 := Lib.hid (B2.out.keep S2.out hT ⟨fun f => f, fun f => f⟩); have b0 := B3.out.c0; have b1 := B3.out.c1; obtain ⟨d0, d1, d2, d3, d4⟩ := hS.reads; clear hS hT))
                    go_quiet (fail)
                    go_wp2_with fail
                    have S4 := Lib.hid (S3.out.drewN nq)
                    have T4 := Lib.hid (T3.out.drewN nq)
                    have B4 := Lib.hid (B3.out.drewN nq)
                    clear S3 T3 B3 b0 b1 d0 d1 d2 d3 d4
                    revert S4 T4 B4
                    generalize W3.drewN nq = W4
                    intro S4 T4 B4
                    have b0 := B4.out.c0
                    have b1 := B4.out.c1
                    have CR := Lib.hid (CRX.out _ _ S4.out B4.out)
                    have PB0 : ∀ o1 o2, ((W4.alloc o1).alloc o2).cell? ⟨W.heap.size, 0, none⟩ = some (.pointer (some ⟨g, 0, none⟩)) := fun o1 o2 => ((B4.out.alloc o1).alloc o2).c0
                    go_wp2_with (first | (go_at_call 56; refine (small_calls b _).mono ?_; rintro e1 W' ⟨rfl, rfl⟩) | (go_at_call 58; refine (digit_calls b _).mono ?_; rintro e1 W' ⟨rfl, rfl⟩) | (go_at_call 62; refine CR.out.mono ?_; rintro e1 W5 ⟨q5, o5, v5, m5, rfl, hS, hT⟩; have S5 := Lib.hid hS; have T5 := Lib.hid hT; clear hS hT))
                    go_ret
                    exact Res.mk_err HX.out S5.out (T4.out.trans T5.out)
                  | ok y =>
                    obtain ⟨o5, r1, n5⟩ := y
                    have hfl5 : (o ++ o5).length ≤ 4294967296 := by have := rows_len (member_len (value_len d)) hrw; have := HHF.out; have := HQ.out; have := HPQ.out; rw [List.length_append]; omega
                    rw [hrw] at hx CRX
                    have HX := Lib.hid hx
                    clear h hrs hsl hs hf hx hdep hq h34 hrw h45 h45b h91 h123
                    go_enter Tryz.func37, Tryz.ntmps37
                    go_wp2_with (first | (go_at_call 38; refine CN.out.mono ?_; rintro e1 W3 ⟨rfl, hS, hT⟩; have S3 := Lib.hid hS; have T3 := Lib.hid (T2.out.trans hT); have B3 := Lib.hid (B2.out.keep S2.out hT ⟨fun f => f, fun f => f⟩); have b0 := B3.out.c0; have b1 := B3.out.c1; obtain ⟨d0, d1, d2, d3, d4⟩ := hS.reads; clear hS hT))
                    go_quiet (fail)
                    go_wp2_with fail
                    have S4 := Lib.hid (S3.out.drewN nq)
                    have T4 := Lib.hid (T3.out.drewN nq)
                    have B4 := Lib.hid (B3.out.drewN nq)
                    clear S3 T3 B3 b0 b1 d0 d1 d2 d3 d4
                    revert S4 T4 B4
                    generalize W3.drewN nq = W4
                    intro S4 T4 B4
                    have b0 := B4.out.c0
                    have b1 := B4.out.c1
                    have CR := Lib.hid (CRX.out _ _ S4.out B4.out)
                    have PB0 : ∀ o1 o2, ((W4.alloc o1).alloc o2).cell? ⟨W.heap.size, 0, none⟩ = some (.pointer (some ⟨g, 0, none⟩)) := fun o1 o2 => ((B4.out.alloc o1).alloc o2).c0
                    go_wp2_with (first | (go_at_call 56; refine (small_calls b _).mono ?_; rintro e1 W' ⟨rfl, rfl⟩) | (go_at_call 58; refine (digit_calls b _).mono ?_; rintro e1 W' ⟨rfl, rfl⟩) | (go_at_call 62; refine CR.out.mono ?_; rintro e1 W5 ⟨v5, rfl, hS, hT⟩; have S5 := Lib.hid hS; have T5 := Lib.hid hT; have B5 := Lib.hid (B4.out.keep S4.out hT ⟨fun f => f, fun f => f⟩); clear b0 b1; have b0 := B5.out.c0; clear hS hT) | (go_at_call 61; refine (put_calls S5.out X0 _ _ _ _ hfl5).mono ?_; rintro e1 W6 ⟨v6, rfl, hS, hT⟩; have S6 := Lib.hid hS; have T6 := Lib.hid hT; clear hS hT))
                    go_ret
                    exact Res.mk_ok HX.out (by rw [← List.append_assoc]; exact S6.out) ((T4.out.trans T5.out).trans T6.out)
                · have t123 : ((b.toNat : Int) == 123) = false := u8_ne (y := 123) h123
                  rw [if_neg h123] at hx
                  have HX := Lib.hid hx
                  have HO := Lib.hid (show odd (rest s q) = (10, t.length + 1) by rw [hrs]; simp [odd])
                  clear h hrs hsl hs hf hx hdep hq h34 h45 h45b h91 h123
                  go_enter Tryz.func37, Tryz.ntmps37
                  go_wp2_with (first | (go_at_call 38; refine CN.out.mono ?_; rintro e1 W3 ⟨rfl, hS, hT⟩; have S3 := Lib.hid hS; have T3 := Lib.hid (T2.out.trans hT); have B3 := Lib.hid (B2.out.keep S2.out hT ⟨fun f => f, fun f => f⟩); have b0 := B3.out.c0; have b1 := B3.out.c1; obtain ⟨d0, d1, d2, d3, d4⟩ := hS.reads; clear hS hT))
                  go_quiet (fail)
                  go_wp2_with fail
                  have S4 := Lib.hid (S3.out.drewN nq)
                  have T4 := Lib.hid (T3.out.drewN nq)
                  have B4 := Lib.hid (B3.out.drewN nq)
                  clear S3 T3 B3 b0 b1 d0 d1 d2 d3 d4
                  revert S4 T4 B4
                  generalize W3.drewN nq = W4
                  intro S4 T4 B4
                  have b0 := B4.out.c0
                  have b1 := B4.out.c1
                  go_wp2_with (first | (go_at_call 56; refine (small_calls b _).mono ?_; rintro e1 W' ⟨rfl, rfl⟩) | (go_at_call 58; refine (digit_calls b _).mono ?_; rintro e1 W' ⟨rfl, rfl⟩) | (go_at_call 39; refine (odd_calls S4.out X0).mono ?_; rintro e1 W5 ⟨rfl, hS, hT⟩; have S5 := Lib.hid hS; have T5 := Lib.hid hT; clear hS hT))
                  go_ret
                  have h5 := S5.out
                  rw [HO.out] at h5
                  exact Res.mk_err HX.out h5 (T4.out.trans T5.out)
end
theorem value_calls : ∀ d, d ≤ 20 → VC d
  | 0, h => value_step 0 h (fun d' e => by cases e)
  | d + 1, h => value_step (d + 1) h (fun d' e => by cases e; exact value_calls d (by omega))
end Go.Proofs.YtoefnmhmiphilaaGreatDoor.Tp

namespace Go.Proofs.YtoefnmhmiphilaaGreatDoor.Tp
open Go Go.RowKit Go.Maps Go.Proofs.YtoefnmhmiphilaaGreatDoorW.PrintWords
def parsed (s : List UInt8) : Except (Int × Int) (List Nd) :=
  if 20000 < s.length then .error (2, 0)
  else match value 20 s with
    | .error (c, p) => .error (c, (s.length : Int) - p)
    | .ok (o, r) => match skip r with
      | [] => if o.length ≤ 2000 then .ok o else .error (2, 0)
      | b :: t => .error ((odd (b :: t)).1, (s.length : Int) - (odd (b :: t)).2)
def failV (e q : Int) : Value := .agg #[.int .i64 e, .int .i64 q]
def PRes (s : ByteArray) (W : World) (r : Ending) (W' : World) : Prop :=
  Below W.heap.size W W' ∧ match parsed s.data.toList with
  | .ok o => ∃ v', r = .returned (.tuple #[v', failV 0 0]) ∧ W'.ownsRow W.heap.size 32 4 v' o.length (encs o)
  | .error e => r = .returned (.tuple #[.slice none 0 0, failV e.1 e.2])
theorem PRes.mk_ok {s : ByteArray} {W W' : World} {o : List Nd} {v' : Value} (hx : parsed s.data.toList = .ok o) (hb : Below W.heap.size W W') (ho : W'.ownsRow W.heap.size 32 4 v' o.length (encs o)) : PRes s W (.returned (.tuple #[v', .agg #[.int .i64 0, .int .i64 0]])) W' := by
  unfold PRes; rw [hx]; exact ⟨hb, v', rfl, ho⟩
theorem PRes.mk_err {s : ByteArray} {W W' : World} {e : Int × Int} (hx : parsed s.data.toList = .error e) (hb : Below W.heap.size W W') : PRes s W (.returned (.tuple #[.slice none 0 0, .agg #[.int .i64 e.1, .int .i64 e.2]])) W' := by
  unfold PRes; rw [hx]; exact ⟨hb, rfl⟩
theorem own_slice {w : World} {base e size n : Nat} {v : Value} {xs : List Value} (h : w.ownsRow base e size v n xs) : ∃ a cap, v = .slice a n cap := by
  rcases h.2 with ⟨h1, h2⟩ | ⟨g, cap, cur, h1, _⟩
  · subst h1; subst h2; exact ⟨_, _, rfl⟩
  · exact ⟨_, cap, h1⟩
theorem fail_back {w : World} {b : Nat} {x y : Value} {t : TypeId} (h : w.heap[b]? = some (.cells #[x, y] t (0, 0))) (u v : Value) : ((w.setCell ⟨b, 0, none⟩ u).setCell ⟨b, 1, none⟩ v).heap[b]? = some (.cells #[u, v] t (0, 0)) := blk_put (blk_put h 0 u rfl) 1 v rfl
theorem Stp.bel {X : Nat → Prop} {g b : Nat} {W W1 : World} {v1 : Value} (h : Stp X g W (.slice none 0 0) W1 v1) (hb : b ≤ W.heap.size) (hg : b ≤ g) (hX : ∀ i, ¬ X i) : Below b W W1 :=
  h.kp.below hb (fun i hi => by
    rcases hi with e | e | e
    · omega
    · simp [Value.ownBlock] at e
    · exact absurd e (hX i))
theorem belN {b : Nat} {a w : World} (h : Below b a w) (n : Nat) : Below b a (w.drewN n) := ⟨h.os, h.tape, h.output, h.size, h.block⟩
theorem Sc.out_put {W : World} {g base : Nat} {s : ByteArray} {p : Nat} {o : List Nd} {c a : Int} {v : Value} (h : Sc W g base s p o c a v) {b : Nat} {x y : Value} (hb : W.heap[b]? = some (.cells #[x, y] 40 (0, 0))) (u1 u2 : Value) :
    ((W.setCell ⟨b, 0, none⟩ u1).setCell ⟨b, 1, none⟩ u2).ownsRow base 32 4 v o.length (encs o) := by
  have hv := h.apart hb (by rintro cs t f hh; cases hh; decide)
  exact own_same h.out (fun k hk => by
    have hkb : k ≠ b := fun e => hv (by rw [hk, e])
    rw [Below.heap_setCell _ ⟨b, 1, none⟩ u2 k hkb, Below.heap_setCell _ ⟨b, 0, none⟩ u1 k hkb])
theorem rest_zero (s : ByteArray) : rest s 0 = s.data.toList := by unfold rest; simp
set_option maxHeartbeats 8000000 in
set_option maxRecDepth 100000 in
theorem parse_calls (W : World) (ad : Option Addr) (cap : Nat) (s : ByteArray) (hcv : ∀ W', Below W.heap.size W W' → (convert 43 9 (.slice ad s.size cap)).run Tryz.prog W' = .ok (.string s) W') (hz : s.size ≤ 4611686018427387904) :
    Calls Tryz.prog 24 #[.slice ad s.size cap] W (PRes s W) := by
  have h0 := hcv (W.alloc (.cells #[.int .i64 0, .int .i64 0] 40)) (below_alloc (Below.refl _ W) _)
  have hl : s.data.toList.length = s.size := by simp
  obtain ⟨b, hb⟩ : ∃ b, W.heap.size = b := ⟨_, rfl⟩
  by_cases hbig : 20000 < s.size
  · have d1 : (20000 : Int) < (s.size : Int) := by omega
    have HX := Lib.hid (show parsed s.data.toList = .error (2, 0) by unfold parsed; rw [if_pos (by omega)])
    clear hcv hl
    go_enter Tryz.func24, Tryz.ntmps24
    go_wp2_with fail
    refine wp_scope_forward 0 rfl ?_
    go_wp2_with fail
    go_step3
    go_wp2_with fail
    rw [jump_goto]
    show Code.wp _ _ _ _ _
    go_wp2_with fail
    rw [Exit.noGoto_ret]
    have kf : ((W.alloc (.cells #[.int .i64 2, .int .i64 0] 40)).alloc (.cells #[.string s, .int .i64 0, .slice none 0 0, .int .i64 0, .int .i64 0] 64)).heap[b]? = some (.cells #[.int .i64 2, .int .i64 0] 40 (0, 0)) := by rw [← hb]; exact blk_alloc (blk_new W _) _
    have k0 := (blk_cell kf 0).trans rfl
    have k1 := (blk_cell kf 1).trans rfl
    clear kf
    refine bodyPost_ret (v := .tuple #[.slice none 0 0, .agg #[.int .i64 2, .int .i64 0]]) (by simp [results, Tryz.results24, go_sem, k0, k1]) rfl ?_
    exact PRes.mk_err HX.out (by rw [hb]; exact ((Below.refl b W).alloc (by omega) _).alloc (by simp; omega) _)
  · have d1 : decide ((20000 : Int) < (s.size : Int)) = false := by simp; omega
    have S2 : Hid (Sc ((W.alloc (.cells #[.int .i64 0, .int .i64 0] 40)).alloc (.cells #[.string s, .int .i64 0, .slice none 0 0, .int .i64 0, .int .i64 0] 64)) (b + 1) b s 0 [] 0 0 (.slice none 0 0)) :=
      Lib.hid ⟨by rw [← hb]; simpa using blk_new (W.alloc (.cells #[.int .i64 0, .int .i64 0] 40)) (.cells #[.string s, .int .i64 0, .slice none 0 0, .int .i64 0, .int .i64 0] 64), own_nil _ _ _ _, Nat.zero_le _, by omega⟩
    have F2 : Hid (((W.alloc (.cells #[.int .i64 0, .int .i64 0] 40)).alloc (.cells #[.string s, .int .i64 0, .slice none 0 0, .int .i64 0, .int .i64 0] 64)).heap[b]? = some (.cells #[.int .i64 0, .int .i64 0] 40 (0, 0))) := Lib.hid (by rw [← hb]; exact blk_alloc (blk_new W _) _)
    have B2 : Hid (Below b W ((W.alloc (.cells #[.int .i64 0, .int .i64 0] 40)).alloc (.cells #[.string s, .int .i64 0, .slice none 0 0, .int .i64 0, .int .i64 0] 64))) := Lib.hid (((Below.refl b W).alloc (by omega) _).alloc (by simp; omega) _)
    have CV := Lib.hid (value_calls 20 (Nat.le_refl _) _ _ _ _ _ _ _ _ _ S2.out (by omega) (by simp; omega))
    rw [show (21 : Int) - ((20 : Nat) : Int) = 1 from rfl, rest_zero] at CV
    have hp0 : parsed s.data.toList = (match value 20 s.data.toList with
      | .error (c, p) => .error (c, (s.data.toList.length : Int) - p)
      | .ok (o, r) => match skip r with
        | [] => if o.length ≤ 2000 then .ok o else .error (2, 0)
        | b :: t => .error ((odd (b :: t)).1, (s.data.toList.length : Int) - (odd (b :: t)).2)) := by unfold parsed; rw [if_neg (by omega)]
    cases hv : value 20 s.data.toList with
    | error e =>
      obtain ⟨ec, ep⟩ := e
      rw [hv] at hp0 CV
      rw [hl] at hp0
      have HX := Lib.hid hp0
      clear hcv hl hv hp0
      go_enter Tryz.func24, Tryz.ntmps24
      go_wp2_with fail
      go_step3
      go_wp2_with (first | (go_at_call 37; refine CV.out.mono ?_; rintro e1 W3 ⟨q, o2, v2, rfl, hS, hT⟩; have S3 := Lib.hid hS; have T3 := Lib.hid hT; have F3 := Lib.hid (S2.out.keep hT F2.out (fun f => f) (by rintro cs t f hh; cases hh; exact ⟨by decide, by decide⟩)); obtain ⟨d0, d1, d2, d3, d4⟩ := hS.reads; have f0 := blk_frozen F3.out 0; have f1 := blk_frozen F3.out 1; have k0 := blk_cell F3.out 0; have k1 := blk_cell F3.out 1; clear hS hT))
      have T3b := Lib.hid (B2.out.trans (T3.out.bel (b := b) (by rw [World.size_alloc, World.size_alloc]; omega) (by omega) (fun _ f => f)))
      go_region
      go_wp2_with fail
      have kf := fail_back (F3.out) (.int .i64 ec) (.int .i64 ((s.size : Int) - (ep : Int)))
      have k0 := (blk_cell kf 0).trans rfl
      have k1 := (blk_cell kf 1).trans rfl
      clear kf
      refine bodyPost_ret (v := .tuple #[.slice none 0 0, .agg #[.int .i64 ec, .int .i64 ((s.size : Int) - (ep : Int))]]) (by simp [results, Tryz.results24, go_sem, k0, k1]) rfl ?_
      exact PRes.mk_err HX.out (by rw [hb]; exact ((T3b.out.setCell (p := ⟨b, 0, none⟩) (Nat.le_refl b) _).setCell (p := ⟨b, 1, none⟩) (Nat.le_refl b) _).drew)
    | ok y =>
      obtain ⟨o, r⟩ := y
      rw [hv] at hp0 CV
      rw [hl] at hp0
      obtain ⟨cc, ecc, _⟩ := (value_ext 20).2 _ _ _ hv
      have hrr : rest s (s.size - r.length) = r := (rest_suffix (p := 0) (c := cc) (Nat.zero_le _) (by rw [rest_zero]; exact ecc)).1
      have hrl : r.length ≤ s.size := by have := congrArg List.length ecc; rw [List.length_append, hl] at this; omega
      have ho := value_len 20 _ _ _ hv
      rw [hl] at ho
      have HRR := Lib.hid hrr
      cases hs : skip r with
      | nil =>
        have hp1 : parsed s.data.toList = if o.length ≤ 2000 then .ok o else .error (2, 0) := by rw [hp0]; simp only [hs]
        have HP := Lib.hid hp1
        have HS := Lib.hid hs
        have d9 : decide ((s.size : Int) < (s.size : Int)) = false := by simp
        clear hcv hl hv hp0 hp1 ecc hrr hs hrl ho
        by_cases h2 : o.length ≤ 2000
        · have HX := Lib.hid (show parsed s.data.toList = .ok o by rw [HP.out, if_pos h2])
          have d8 : (o.length : Int) ≤ 2000 := by omega
          go_enter Tryz.func24, Tryz.ntmps24
          go_wp2_with fail
          go_step3
          go_wp2_with (first | (go_at_call 37; refine CV.out.mono ?_; rintro e1 W3 ⟨v3, rfl, hS, hT⟩; rw [List.nil_append] at hS; obtain ⟨a3, cap3, rfl⟩ := own_slice hS.out; have S3 := Lib.hid hS; have T3 := Lib.hid hT; have F3 := Lib.hid (S2.out.keep hT F2.out (fun f => f) (by rintro cs t f hh; cases hh; exact ⟨by decide, by decide⟩)); clear hS hT) | (go_at_call 38; refine (next_calls S3.out X0 (by omega)).mono ?_; rw [HRR.out, HS.out]; rintro e1 W4 ⟨rfl, hS, hT⟩; have S4 := Lib.hid hS; have T4 := Lib.hid (T3.out.trans hT); have F4 := Lib.hid (S3.out.keep hT F3.out (fun f => f) (by rintro cs t f hh; cases hh; exact ⟨by decide, by decide⟩)); obtain ⟨d0, d1, d2, d3, d4⟩ := hS.reads; have f0 := blk_frozen F4.out 0; have f1 := blk_frozen F4.out 1; have k0 := (blk_cell F4.out 0).trans rfl; have k1 := (blk_cell F4.out 1).trans rfl; have B4 := Lib.hid (B2.out.trans (T4.out.bel (b := b) (by rw [World.size_alloc, World.size_alloc]; omega) (by omega) (fun _ f => f))); clear hS hT))
          go_quiet (fail)
          go_wp2_with fail
          have kf := fail_back ((show (W4.drewN nq).heap[b]? = _ from F4.out)) (.int .i64 0) (.int .i64 0)
          have k0 := (blk_cell kf 0).trans rfl
          have k1 := (blk_cell kf 1).trans rfl
          clear kf
          refine bodyPost_ret (v := .tuple #[.slice a3 o.length cap3, .agg #[.int .i64 0, .int .i64 0]]) (by simp [results, Tryz.results24, go_sem, k0, k1]) rfl ?_
          exact PRes.mk_ok HX.out (by rw [hb]; exact (((belN B4.out _).setCell (p := ⟨b, 0, none⟩) (Nat.le_refl b) _).setCell (p := ⟨b, 1, none⟩) (Nat.le_refl b) _)) (by rw [hb]; exact (S4.out.drewN _).out_put (show (W4.drewN nq).heap[b]? = _ from F4.out) _ _)
        · have HX := Lib.hid (show parsed s.data.toList = .error (2, 0) by rw [HP.out, if_neg h2])
          have d8 : decide ((o.length : Int) ≤ 2000) = false := by simp; omega
          go_enter Tryz.func24, Tryz.ntmps24
          go_wp2_with fail
          go_step3
          go_wp2_with (first | (go_at_call 37; refine CV.out.mono ?_; rintro e1 W3 ⟨v3, rfl, hS, hT⟩; rw [List.nil_append] at hS; obtain ⟨a3, cap3, rfl⟩ := own_slice hS.out; have S3 := Lib.hid hS; have T3 := Lib.hid hT; have F3 := Lib.hid (S2.out.keep hT F2.out (fun f => f) (by rintro cs t f hh; cases hh; exact ⟨by decide, by decide⟩)); clear hS hT) | (go_at_call 38; refine (next_calls S3.out X0 (by omega)).mono ?_; rw [HRR.out, HS.out]; rintro e1 W4 ⟨rfl, hS, hT⟩; have S4 := Lib.hid hS; have T4 := Lib.hid (T3.out.trans hT); have F4 := Lib.hid (S3.out.keep hT F3.out (fun f => f) (by rintro cs t f hh; cases hh; exact ⟨by decide, by decide⟩)); obtain ⟨d0, d1, d2, d3, d4⟩ := hS.reads; have f0 := blk_frozen F4.out 0; have f1 := blk_frozen F4.out 1; have k0 := (blk_cell F4.out 0).trans rfl; have k1 := (blk_cell F4.out 1).trans rfl; have B4 := Lib.hid (B2.out.trans (T4.out.bel (b := b) (by rw [World.size_alloc, World.size_alloc]; omega) (by omega) (fun _ f => f))); clear hS hT))
          go_quiet (fail)
          go_wp2_with fail
          refine wp_label ?_
          go_wp2_with fail
          rw [Exit.noGoto_ret]
          have kf := fail_back ((show (W4.drewN nq).heap[b]? = _ from F4.out)) (.int .i64 2) (.int .i64 0)
          have k0 := (blk_cell kf 0).trans rfl
          have k1 := (blk_cell kf 1).trans rfl
          clear kf
          refine bodyPost_ret (v := .tuple #[.slice none 0 0, .agg #[.int .i64 2, .int .i64 0]]) (by simp [results, Tryz.results24, go_sem, k0, k1]) rfl ?_
          exact PRes.mk_err HX.out (by rw [hb]; exact (((belN B4.out _).setCell (p := ⟨b, 0, none⟩) (Nat.le_refl b) _).setCell (p := ⟨b, 1, none⟩) (Nat.le_refl b) _))
      | cons x t =>
        have hp1 : parsed s.data.toList = .error ((odd (x :: t)).1, (s.size : Int) - (odd (x :: t)).2) := by rw [hp0]; simp only [hs]
        have HX := Lib.hid hp1
        have HS := Lib.hid hs
        have hsl := skip_le r
        rw [hs, List.length_cons] at hsl
        have hrs := rest_skip (s := s) (p := s.size - r.length) (by omega)
        rw [hrr, hs] at hrs
        have HRS := Lib.hid hrs
        obtain ⟨q, hq⟩ : ∃ q, s.size - (x :: t).length = q := ⟨_, rfl⟩
        rw [hq] at HRS
        have HQ := Lib.hid hq
        rw [List.length_cons] at hq
        have d9 : (q : Int) < (s.size : Int) := by omega
        clear hcv hl hv hp0 hp1 ecc hrr hs hrl ho hsl hrs hq
        go_enter Tryz.func24, Tryz.ntmps24
        go_wp2_with fail
        go_step3
        go_wp2_with (first | (go_at_call 37; refine CV.out.mono ?_; rintro e1 W3 ⟨v3, rfl, hS, hT⟩; rw [List.nil_append] at hS; obtain ⟨a3, cap3, rfl⟩ := own_slice hS.out; have S3 := Lib.hid hS; have T3 := Lib.hid hT; have F3 := Lib.hid (S2.out.keep hT F2.out (fun f => f) (by rintro cs t f hh; cases hh; exact ⟨by decide, by decide⟩)); clear hS hT) | (go_at_call 38; refine (next_calls S3.out X0 (by omega)).mono ?_; rw [HRR.out, HS.out]; rw [HQ.out]; rintro e1 W4 ⟨rfl, hS, hT⟩; have S4 := Lib.hid hS; have T4 := Lib.hid (T3.out.trans hT); have F4 := Lib.hid (S3.out.keep hT F3.out (fun f => f) (by rintro cs t f hh; cases hh; exact ⟨by decide, by decide⟩)); obtain ⟨d0, d1, d2, d3, d4⟩ := hS.reads; have f0 := blk_frozen F4.out 0; have f1 := blk_frozen F4.out 1; have k0 := (blk_cell F4.out 0).trans rfl; have k1 := (blk_cell F4.out 1).trans rfl; have B4 := Lib.hid (B2.out.trans (T4.out.bel (b := b) (by rw [World.size_alloc, World.size_alloc]; omega) (by omega) (fun _ f => f))); clear hS hT))
        go_quiet (fail)
        go_wp2_with (go_at_call 39; refine (odd_calls (S4.out.drewN _) X0).mono ?_; rw [HRS.out]; rintro e1 W5 ⟨rfl, hS, hT⟩; have S5 := Lib.hid hS; have T5 := Lib.hid hT; clear hS hT)
        have F5 := Lib.hid ((S4.out.drewN nq).keep T5.out (show (W4.drewN nq).heap[b]? = _ from F4.out) (fun f => f) (by rintro cs t f hh; cases hh; exact ⟨by decide, by decide⟩))
        have B5 := Lib.hid (B4.out.trans ((belN (Below.refl b W4) nq).trans (T5.out.kp.below (B := b) (by have := S4.out.drewN nq; have := blk_lt this.blk; omega) (fun i hi => by
          rcases hi with e | e | e
          · omega
          · rcases S4.out.out.2 with ⟨h1, _⟩ | ⟨b', c', u', h1, h2, _⟩
            · rw [h1] at e; cases e
            · rw [h1] at e; simp [Value.ownBlock] at e; omega
          · exact e.elim))))
        clear d0 d1 d2 d3 d4 f0 f1 k0 k1
        obtain ⟨d0, d1, d2, d3, d4⟩ := S5.out.reads
        have f0 := blk_frozen F5.out 0
        have f1 := blk_frozen F5.out 1
        have k0 := (blk_cell F5.out 0).trans rfl
        have k1 := (blk_cell F5.out 1).trans rfl
        go_region
        go_wp2_with fail
        rw [Exit.noGoto_ret]
        have kf := fail_back (F5.out) (.int .i64 (odd (x :: t)).1) (.int .i64 ((s.size : Int) - ((odd (x :: t)).2 : Int)))
        have k0 := (blk_cell kf 0).trans rfl
        have k1 := (blk_cell kf 1).trans rfl
        clear kf
        refine bodyPost_ret (v := .tuple #[.slice none 0 0, .agg #[.int .i64 (odd (x :: t)).1, .int .i64 ((s.size : Int) - ((odd (x :: t)).2 : Int))]]) (by simp [results, Tryz.results24, go_sem, k0, k1]) rfl ?_
        exact PRes.mk_err HX.out (by rw [hb]; exact ((B5.out.setCell (p := ⟨b, 0, none⟩) (Nat.le_refl b) _).setCell (p := ⟨b, 1, none⟩) (Nat.le_refl b) _).drew)
end Go.Proofs.YtoefnmhmiphilaaGreatDoor.Tp

namespace Go.Proofs.YtoefnmhmiphilaaGreatDoor.Tp
open Go Go.RowKit Go.Maps Go.Proofs.YtoefnmhmiphilaaGreatDoorW.PrintWords
def Row (W : World) (b : Nat) (o : List Nd) : Prop := ∀ i, i < o.length * 4 → W.cell? ⟨b, i, none⟩ = (encs o)[i]?
theorem encs_get (o : List Nd) (k : Nat) (hk : k < o.length) (j : Nat) (hj : j < 4) : (encs o)[k * 4 + j]? = (cellsN o[k])[j]? := by
  induction o generalizing k with
  | nil => simp at hk
  | cons n o ih =>
    unfold encs
    rw [List.flatMap_cons]
    cases k with
    | zero => rw [List.getElem?_append_left (by simp [cellsN]; omega)]; simp
    | succ k =>
      rw [List.getElem?_append_right (by simp [cellsN]; omega)]
      have := ih k (by simpa using hk)
      unfold encs at this
      simp only [List.getElem_cons_succ]
      rw [← this]
      congr 1
      simp [cellsN]; omega
theorem Row.at_ {W : World} {b : Nat} {o : List Nd} (h : Row W b o) (k : Nat) (hk : k < o.length) : W.cell? ⟨b, k * 4, none⟩ = some (.int .i64 o[k].f0) ∧ W.cell? ⟨b, k * 4 + 1, none⟩ = some (.string o[k].f1) ∧ W.cell? ⟨b, k * 4 + 2, none⟩ = some (.int .i64 o[k].f2) ∧ W.cell? ⟨b, k * 4 + 3, none⟩ = some (.int .i64 o[k].f3) :=
  ⟨(h (k * 4) (by omega)).trans (encs_get o k hk 0 (by omega)), (h (k * 4 + 1) (by omega)).trans (encs_get o k hk 1 (by omega)), (h (k * 4 + 2) (by omega)).trans (encs_get o k hk 2 (by omega)), (h (k * 4 + 3) (by omega)).trans (encs_get o k hk 3 (by omega))⟩
theorem Row.drewN {W : World} {b : Nat} {o : List Nd} (h : Row W b o) (n : Nat) : Row (W.drewN n) b o := fun i hi => by rw [← h i hi]; rfl
set_option maxHeartbeats 8000000 in
set_option maxRecDepth 100000 in
theorem same_calls (W : World) (o : List Nd) (b1 b2 c1 c2 : Nat) (h1 : Row W b1 o) (h2 : Row W b2 o) (hl : o.length ≤ 4294967296) :
    Calls Tryz.prog 14 #[.slice (some ⟨b1, 0, none⟩) o.length c1, .slice (some ⟨b2, 0, none⟩) o.length c2] W fun e W' => e = .returned (.bool true) ∧ ∃ n, W' = W.drewN n := by
  have H1 := Lib.hid h1
  have H2 := Lib.hid h2
  have HL := Lib.hid hl
  obtain ⟨nn, hn⟩ : ∃ nn, o.length = nn := ⟨_, rfl⟩
  rw [hn]
  have HN := Lib.hid hn
  clear h1 h2 hl hn
  go_enter Tryz.func14, Tryz.ntmps14
  go_wp2_with fail
  go_loopg [5] nn (fun k v5 W' => ∃ q : Nat, v5 = .int .i64 (q : Int) ∧ Hid (k = nn - q) ∧ Hid (q ≤ nn) ∧ Hid (∃ n, W' = W.drewN n))
  case atStart => exact ⟨0, rfl, Lib.hid rfl, Lib.hid (Nat.zero_le _), Lib.hid ⟨0, rfl⟩⟩
  case round =>
    obtain ⟨q, rfl, HK, HQ, HW⟩ := hrel
    by_cases hlt : q < nn
    · have d1 : decide ((q : Int) < (nn : Int)) = true := by simp; omega
      obtain ⟨x0, x1, x2, x3⟩ := (show Row wr b1 o by obtain ⟨n, e⟩ := HW.out; rw [e]; exact H1.out.drewN n).at_ q (by rw [HN.out]; exact hlt)
      obtain ⟨y0, y1, y2, y3⟩ := (show Row wr b2 o by obtain ⟨n, e⟩ := HW.out; rw [e]; exact H2.out.drewN n).at_ q (by rw [HN.out]; exact hlt)
      go_wp2_with fail
      go_quiet (fail)
      go_wp2
      have hw : wrap64 ((q : Int) + 1) = ((q + 1 : Nat) : Int) := by have := HL.out; have := HN.out; unfold wrap64; omega
      rw [hw]
      go_roundg (nn - (q + 1))
      case rel => exact ⟨q + 1, rfl, Lib.hid rfl, Lib.hid hlt, Lib.hid (by obtain ⟨n, e⟩ := HW.out; exact ⟨n + nq, by rw [e]; simp [World.drewN, Nat.add_assoc]⟩)⟩
      case measure => have := HK.out; omega
    · have d1 : decide ((q : Int) < (nn : Int)) = false := by simp; omega
      go_wp2_with fail
      go_ret
      exact ⟨rfl, HW.out⟩
end Go.Proofs.YtoefnmhmiphilaaGreatDoor.Tp

namespace Go.Proofs.YtoefnmhmiphilaaGreatDoor.Tp
inductive Tr where
  | mk (n : Nd) (kids : List Tr) : Tr
def Tr.nd : Tr → Nd
  | .mk n _ => n
def Tr.kids : Tr → List Tr
  | .mk _ b => b
theorem Tr.ind {P : Tr → Prop} (h : ∀ n b, (∀ t ∈ b, P t) → P (.mk n b)) : ∀ t, P t
  | .mk n b => h n b (fun t _ => Tr.ind h t)
mutual
def flat : Tr → List Nd
  | .mk n b => flats b ++ [n]
def flats : List Tr → List Nd
  | [] => []
  | t :: ts => flat t ++ flats ts
end
mutual
def deep : Tr → Nat
  | .mk n b => deeps b + (if n.f0 = 6 then 0 else 1)
def deeps : List Tr → Nat
  | [] => 0
  | t :: ts => max (deep t) (deeps ts)
end
theorem flats_append : ∀ a b, flats (a ++ b) = flats a ++ flats b
  | [], _ => rfl
  | t :: a, b => by simp only [List.cons_append, flats, flats_append a b, List.append_assoc]
theorem flat_ne (t : Tr) : flat t ≠ [] := by cases t; simp [flat]
def okc (c : UInt8) : Bool := c == 10 || (decide (32 ≤ c.toNat) && decide (c.toNat ≤ 126))
def texted (s : ByteArray) : Bool := s.data.toList.all okc
def mayK (n : Nd) : Bool :=
  if n.f0 = 1 then decide (n.f1.data.toList = [] ∧ n.f2 = 0 ∧ n.f3 = 0)
  else if n.f0 = 2 then decide (n.f1.data.toList = [] ∧ (n.f2 = 0 ∨ n.f2 = 1) ∧ n.f3 = 0)
  else if n.f0 = 3 then decide (n.f1.data.toList = [] ∧ -999999 ≤ n.f2 ∧ n.f2 ≤ 999999 ∧ n.f3 = 0)
  else if n.f0 = 4 then decide (n.f2 = 0 ∧ n.f3 = 0)
  else if n.f0 = 6 then decide (n.f2 = 0 ∧ n.f3 = 1)
  else if n.f0 = 5 ∨ n.f0 = 7 then decide (n.f1.data.toList = [] ∧ n.f2 = 0)
  else false
def may (n : Nd) : Bool := mayK n && texted n.f1
def Tr.key (t : Tr) : List UInt8 := t.nd.f1.data.toList
def kinds (n : Nd) (b : List Tr) : Bool := b.all (fun t => (t.nd.f0 == 6) == (n.f0 == 7))
def keysOk (n : Nd) (b : List Tr) : Bool := n.f0 != 7 || decide ((b.map Tr.key).Nodup)
def fits (n : Nd) (b : List Tr) : Bool := kinds n b && keysOk n b
def push (st : List Tr) (n : Nd) : Option (List Tr) :=
  if 0 ≤ n.f3 ∧ n.f3 ≤ st.length then
    let at_ := st.length - n.f3.toNat
    if may n && fits n (st.drop at_) then some (st.take at_ ++ [.mk n (st.drop at_)]) else none
  else none
def pushes : List Tr → List Nd → Option (List Tr)
  | st, [] => some st
  | st, n :: l => match push st n with
    | some st' => pushes st' l
    | none => none
def apart (l : List Nd) : Except Int Tr :=
  if 2000 < l.length then .error 2
  else match pushes [] l with
    | some [t] => if t.nd.f0 ≠ 6 ∧ deep t ≤ 20 then .ok t else .error 20
    | _ => .error 20
mutual
def okT : Tr → Bool
  | .mk n b => decide (n.f3 = b.length) && may n && fits n b && okTs b
def okTs : List Tr → Bool
  | [] => true
  | t :: ts => okT t && okTs ts
end
theorem okTs_all : ∀ b, okTs b = b.all okT
  | [] => rfl
  | t :: b => by simp only [okTs, List.all_cons, okTs_all b]
theorem push_flat {st st' : List Tr} {n : Nd} (h : push st n = some st') : flats st' = flats st ++ [n] := by
  unfold push at h
  split at h
  · simp only at h
    split at h
    · cases h
      have e : flats st = flats (st.take (st.length - n.f3.toNat)) ++ flats (st.drop (st.length - n.f3.toNat)) := by rw [← flats_append, List.take_append_drop]
      rw [flats_append, e]
      simp [flats, flat]
    · cases h
  · cases h
theorem pushes_flat : ∀ {l : List Nd} {st st' : List Tr}, pushes st l = some st' → flats st' = flats st ++ l
  | [], st, st', h => by cases h; simp
  | n :: l, st, st', h => by
    unfold pushes at h
    cases hp : push st n with
    | none => rw [hp] at h; cases h
    | some s1 =>
      rw [hp] at h
      rw [pushes_flat h, push_flat hp, List.append_assoc]; rfl
theorem push_ok {st st' : List Tr} {n : Nd} (hs : okTs st = true) (h : push st n = some st') : okTs st' = true := by
  unfold push at h
  split at h
  · rename_i hn
    simp only at h
    split at h
    · rename_i hm
      cases h
      rw [okTs_all] at hs ⊢
      rw [← List.take_append_drop (st.length - n.f3.toNat) st, List.all_append, Bool.and_eq_true] at hs
      rw [List.all_append, hs.1]
      simp only [Bool.and_eq_true] at hm
      simp only [List.all_cons, List.all_nil, Bool.and_true, Bool.true_and, okT, Bool.and_eq_true, okTs_all]
      refine ⟨⟨⟨?_, hm.1⟩, hm.2⟩, hs.2⟩
      rw [decide_eq_true_eq, List.length_drop]; omega
    · cases h
  · cases h
theorem pushes_ok : ∀ {l : List Nd} {st st' : List Tr}, okTs st = true → pushes st l = some st' → okTs st' = true
  | [], st, st', hs, h => by cases h; exact hs
  | n :: l, st, st', hs, h => by
    unfold pushes at h
    cases hp : push st n with
    | none => rw [hp] at h; cases h
    | some s1 =>
      rw [hp] at h
      exact pushes_ok (push_ok hs hp) h
theorem pushes_app : ∀ (a b : List Nd) (st : List Tr), pushes st (a ++ b) = (pushes st a).bind (fun s => pushes s b)
  | [], b, st => rfl
  | n :: a, b, st => by
    simp only [List.cons_append, pushes]
    cases push st n with
    | none => rfl
    | some s => exact pushes_app a b s
theorem pushes_tree : ∀ t : Tr, okT t = true → ∀ st, pushes st (flat t) = some (st ++ [t]) := by
  apply Tr.ind
  intro n b ih h st
  simp only [okT, Bool.and_eq_true, decide_eq_true_eq] at h
  obtain ⟨⟨⟨h1, h2⟩, h3⟩, h4⟩ := h
  have key : ∀ (b' : List Tr), (∀ t ∈ b', t ∈ b) → okTs b' = true → ∀ st, pushes st (flats b') = some (st ++ b') := by
    intro b'
    induction b' with
    | nil => intro _ _ st; simp [flats, pushes]
    | cons t ts iht =>
      intro hm ho st
      simp only [okTs, Bool.and_eq_true] at ho
      rw [flats, pushes_app, ih t (hm t (by simp)) ho.1 st]
      simp only [Option.bind_some]
      rw [iht (fun x hx => hm x (by simp [hx])) ho.2, List.append_assoc]; rfl
  rw [flat, pushes_app, key b (fun _ h => h) h4 st]
  simp only [Option.bind_some, pushes, push]
  have h5 : (st ++ b).length - n.f3.toNat = st.length := by rw [List.length_append]; omega
  rw [if_pos (by rw [List.length_append]; omega)]
  simp only [h5, List.drop_left, List.take_left, h2, h3, Bool.and_self, if_true]
theorem pushes_trees : ∀ (b : List Tr), okTs b = true → ∀ st, pushes st (flats b) = some (st ++ b)
  | [], _, st => by simp [flats, pushes]
  | t :: ts, h, st => by
    simp only [okTs, Bool.and_eq_true] at h
    rw [flats, pushes_app, pushes_tree t h.1 st]
    simp only [Option.bind_some]
    rw [pushes_trees ts h.2, List.append_assoc]; rfl
theorem apart_ok {l : List Nd} {t : Tr} : apart l = .ok t ↔ l.length ≤ 2000 ∧ flat t = l ∧ okT t = true ∧ t.nd.f0 ≠ 6 ∧ deep t ≤ 20 := by
  unfold apart
  constructor
  · intro h
    split at h
    · cases h
    · rename_i hl
      split at h
      · rename_i t' hp
        split at h
        · rename_i hc
          cases h
          have h1 := pushes_flat hp
          have h2 := pushes_ok (by rfl) hp
          simp only [flats, List.append_nil, List.nil_append] at h1
          simp only [okTs, Bool.and_true] at h2
          exact ⟨by omega, h1, h2, hc.1, hc.2⟩
        · cases h
      · cases h
  · rintro ⟨h1, rfl, h3, h4, h5⟩
    rw [if_neg (by omega), pushes_tree t h3 []]
    simp only [List.nil_append]
    rw [if_pos ⟨h4, h5⟩]
theorem apart_err {l : List Nd} {e : Int} (h : apart l = .error e) : (2000 < l.length ∧ e = 2) ∨ (l.length ≤ 2000 ∧ e = 20) := by
  unfold apart at h
  split at h
  · cases h; left; exact ⟨by assumption, rfl⟩
  · right
    refine ⟨by omega, ?_⟩
    split at h
    · split at h
      · cases h
      · cases h; rfl
    · cases h; rfl
theorem flat_inj {t u : Tr} (ht : okT t = true) (hu : okT u = true) (h : flat t = flat u) : t = u := by
  have h1 := pushes_tree t ht []
  have h2 := pushes_tree u hu []
  rw [h, h2] at h1
  simpa using h1.symm
end Go.Proofs.YtoefnmhmiphilaaGreatDoor.Tp

namespace Go.Proofs.YtoefnmhmiphilaaGreatDoor.Tp
def alone (n : Nd) : Bool := decide (0 ≤ n.f3) && may n
def kidsG (g : List Nd → Option (List Nd)) (obj : Bool) : Nat → List Nd → Option (List Nd)
  | 0, r => some r
  | _ + 1, [] => none
  | k + 1, m :: r => if (m.f0 == 6) == obj then (match g (m :: r) with
    | some r' => kidsG g obj k r'
    | none => none) else none
def bg : Nat → List Nd → Option (List Nd)
  | 0, _ => none
  | _ + 1, [] => none
  | f + 1, n :: r => if alone n then kidsG (bg f) (n.f0 == 7) n.f3.toNat r else none
mutual
def okA : Tr → Bool
  | .mk n b => decide (n.f3 = b.length) && alone n && kinds n b && okAs b
def okAs : List Tr → Bool
  | [] => true
  | t :: ts => okA t && okAs ts
end
mutual
def keysT : Tr → Bool
  | .mk n b => keysOk n b && keysTs b
def keysTs : List Tr → Bool
  | [] => true
  | t :: ts => keysT t && keysTs ts
end
theorem okAs_all : ∀ b, okAs b = b.all okA
  | [] => rfl
  | t :: b => by simp only [okAs, List.all_cons, okAs_all b]
theorem keysTs_all : ∀ b, keysTs b = b.all keysT
  | [] => rfl
  | t :: b => by simp only [keysTs, List.all_cons, keysTs_all b]
theorem flat_rev (n : Nd) (b : List Tr) : (flat (.mk n b)).reverse = n :: (flats b).reverse := by simp [flat]
theorem flats_one (t : Tr) : flats [t] = flat t := by simp [flats]
theorem flat_head (t : Tr) : ∃ r, (flat t).reverse = t.nd :: r := by cases t; exact ⟨_, flat_rev _ _⟩
theorem flats_len_mem {t : Tr} {b : List Tr} (h : t ∈ b) : (flat t).length ≤ (flats b).length := by
  induction b with
  | nil => cases h
  | cons u us ih =>
    rw [flats, List.length_append]
    rcases List.mem_cons.1 h with rfl | h
    · omega
    · have := ih h; omega
theorem bg_tree : ∀ t : Tr, okA t = true → ∀ (f : Nat) (r : List Nd), (flat t).length ≤ f → bg f ((flat t).reverse ++ r) = some r := by
  apply Tr.ind
  intro n b ih h f r hf
  simp only [okA, Bool.and_eq_true, decide_eq_true_eq] at h
  obtain ⟨⟨⟨h1, h2⟩, h3⟩, h4⟩ := h
  rw [flat, List.length_append, List.length_singleton] at hf
  obtain ⟨f, rfl⟩ : ∃ f', f = f' + 1 := ⟨f - 1, by omega⟩
  rw [flat_rev, List.cons_append, bg, if_pos h2]
  have key : ∀ c : List Tr, (∀ t ∈ c, t ∈ b) → kidsG (bg f) (n.f0 == 7) c.length ((flats c.reverse).reverse ++ r) = some r := by
    intro c
    induction c with
    | nil => intro _; rfl
    | cons t c ihc =>
      intro hm
      have ht := hm t (by simp)
      rw [List.reverse_cons, flats_append, flats_one, List.reverse_append, List.append_assoc, List.length_cons]
      obtain ⟨q, hq⟩ := flat_head t
      have hk : ((t.nd.f0 == 6) == (n.f0 == 7)) = true := by
        unfold kinds at h3
        exact List.all_eq_true.1 h3 t ht
      have hb := ih t ht (by rw [okAs_all] at h4; exact List.all_eq_true.1 h4 t ht) f ((flats c.reverse).reverse ++ r) (by have := flats_len_mem ht; omega)
      rw [hq, List.cons_append] at hb ⊢
      rw [kidsG, if_pos hk, hb]
      exact ihc (fun x hx => hm x (by simp [hx]))
  have := key b.reverse (fun t ht => by simpa using ht)
  rw [List.reverse_reverse, List.length_reverse] at this
  rw [show n.f3.toNat = b.length by omega]
  exact this
theorem bg_inv : ∀ (f : Nat) (l r : List Nd), bg f l = some r → ∃ t, okA t = true ∧ l = (flat t).reverse ++ r
  | 0, l, r, h => by cases h
  | f + 1, [], r, h => by cases h
  | f + 1, n :: l, r, h => by
    rw [bg] at h
    split at h
    · rename_i ha
      have key : ∀ (k : Nat) (l r : List Nd), kidsG (bg f) (n.f0 == 7) k l = some r → ∃ b, b.length = k ∧ okAs b = true ∧ kinds n b = true ∧ l = (flats b).reverse ++ r := by
        intro k
        induction k with
        | zero => intro l r h; cases h; exact ⟨[], rfl, rfl, rfl, rfl⟩
        | succ k ihk =>
          intro l r h
          cases l with
          | nil => cases h
          | cons m l =>
            rw [kidsG] at h
            split at h
            · rename_i hk
              cases hb : bg f (m :: l) with
              | none => rw [hb] at h; cases h
              | some r' =>
                rw [hb] at h
                obtain ⟨t, h1, h2⟩ := bg_inv f _ _ hb
                obtain ⟨b, g1, g2, g3, g4⟩ := ihk _ _ h
                refine ⟨b ++ [t], by simp [g1], ?_, ?_, ?_⟩
                · rw [okAs_all, List.all_append, ← okAs_all, g2]; simp [h1]
                · unfold kinds at g3 ⊢
                  rw [List.all_append, g3]
                  obtain ⟨q, hq⟩ := flat_head t
                  rw [hq] at h2
                  injection h2 with h2
                  simp [← h2, hk]
                · rw [h2, g4, flats_append, flats_one, List.reverse_append, List.append_assoc]
            · cases h
      obtain ⟨b, g1, g2, g3, g4⟩ := key _ _ _ h
      refine ⟨.mk n b, ?_, by rw [flat_rev, g4]; rfl⟩
      have : 0 ≤ n.f3 := by
        unfold alone at ha
        simp only [Bool.and_eq_true, decide_eq_true_eq] at ha
        exact ha.1
      simp only [okA, Bool.and_eq_true, decide_eq_true_eq]
      exact ⟨⟨⟨by omega, ha⟩, g3⟩, g2⟩
    · cases h
theorem okT_iff : ∀ t : Tr, okT t = (okA t && keysT t) := by
  apply Tr.ind
  intro n b ih
  have h1 : okTs b = (okAs b && keysTs b) := by
    rw [okTs_all, okAs_all, keysTs_all]
    induction b with
    | nil => rfl
    | cons t b ihb =>
      simp only [List.all_cons]
      rw [ih t (by simp), ihb (fun x hx => ih x (by simp [hx]))]
      cases okA t <;> cases keysT t <;> cases b.all okA <;> rfl
  simp only [okT, okA, keysT, alone, fits, h1]
  by_cases hn : n.f3 = b.length
  · have : decide (0 ≤ n.f3) = true := by simp; omega
    rw [this]
    cases decide (n.f3 = ↑b.length) <;> cases may n <;> cases kinds n b <;> cases keysOk n b <;> cases okAs b <;> cases keysTs b <;> rfl
  · simp [hn]
mutual
def fineT : Tr → Int → Bool
  | .mk n b, d => decide (0 ≤ d) && keysOk n b && fineTs b (if n.f0 = 6 then d else d - 1) && (n.f0 == 6 || decide (1 ≤ d))
def fineTs : List Tr → Int → Bool
  | [], _ => true
  | t :: ts, d => fineT t d && fineTs ts d
end
theorem fineTs_all (d : Int) : ∀ b, fineTs b d = b.all (fun t => fineT t d)
  | [] => rfl
  | t :: b => by simp only [fineTs, List.all_cons, fineTs_all d b]
theorem fine_iff : ∀ (t : Tr) (d : Int), fineT t d = (keysT t && decide (0 ≤ d) && decide ((deep t : Int) ≤ d)) := by
  apply Tr.ind (P := fun t => ∀ d : Int, fineT t d = (keysT t && decide (0 ≤ d) && decide ((deep t : Int) ≤ d)))
  intro n b ih d
  have h1 : ∀ d : Int, 0 ≤ d → fineTs b d = (keysTs b && decide ((deeps b : Int) ≤ d)) := by
    intro d hd
    rw [fineTs_all, keysTs_all]
    induction b with
    | nil => simp [deeps, hd]
    | cons t b ihb =>
      simp only [List.all_cons]
      rw [ih t (by simp) d, ihb (fun x hx => ih x (by simp [hx])), deeps]
      have : decide ((max (deep t) (deeps b) : Nat) ≤ d) = (decide ((deep t : Int) ≤ d) && decide ((deeps b : Int) ≤ d)) := by
        rw [← Bool.decide_and]; congr 1; rw [eq_iff_iff]; omega
      rw [this, decide_eq_true hd]
      cases keysT t <;> cases b.all keysT <;> simp
  simp only [fineT, keysT, deep]
  by_cases hd : 0 ≤ d
  · by_cases h6 : n.f0 = 6
    · simp only [h6, if_true, h1 d hd, Nat.add_zero]
      simp [hd]
      cases keysOk n b <;> cases keysTs b <;> simp
    · simp only [if_neg h6]
      by_cases hd1 : 1 ≤ d
      · rw [h1 (d - 1) (by omega)]
        have : decide ((deeps b : Int) ≤ d - 1) = decide (((deeps b + 1 : Nat) : Int) ≤ d) := by congr 1; rw [eq_iff_iff]; omega
        rw [this]
        simp [hd, hd1]
        cases keysOk n b <;> cases keysTs b <;> simp
      · have : decide (((deeps b + 1 : Nat) : Int) ≤ d) = false := by simp; omega
        rw [this]
        simp [h6, hd1]
  · simp [hd]
theorem okA_inj : ∀ t : Tr, okA t = true → ∀ (u : Tr) (r r' : List Nd), okA u = true → (flat t).reverse ++ r = (flat u).reverse ++ r' → t = u ∧ r = r' := by
  apply Tr.ind
  intro n b ih h u r r' hu he
  obtain ⟨m, c⟩ := u
  rw [flat_rev, flat_rev, List.cons_append, List.cons_append] at he
  injection he with e1 e2
  subst e1
  simp only [okA, Bool.and_eq_true, decide_eq_true_eq] at h hu
  obtain ⟨⟨⟨h1, _⟩, _⟩, h4⟩ := h
  obtain ⟨⟨⟨g1, _⟩, _⟩, g4⟩ := hu
  have key : ∀ (x y : List Tr), (∀ t ∈ x, t ∈ b) → (∀ t ∈ y, okA t = true) → x.length = y.length → (flats x.reverse).reverse ++ r = (flats y.reverse).reverse ++ r' → x = y ∧ r = r' := by
    intro x
    induction x with
    | nil =>
      intro y _ _ hl he
      cases y with
      | nil => exact ⟨rfl, by simpa [flats] using he⟩
      | cons => simp at hl
    | cons t x ihx =>
      intro y hm hy hl he
      cases y with
      | nil => simp at hl
      | cons u y =>
        rw [List.reverse_cons, List.reverse_cons, flats_append, flats_append, flats_one, flats_one, List.reverse_append, List.reverse_append, List.append_assoc, List.append_assoc] at he
        have ht := hm t (by simp)
        obtain ⟨k1, k2⟩ := ih t ht (by rw [okAs_all] at h4; exact List.all_eq_true.1 h4 t ht) u _ _ (hy u (by simp)) he
        obtain ⟨k3, k4⟩ := ihx y (fun z hz => hm z (by simp [hz])) (fun z hz => hy z (by simp [hz])) (by simpa using hl) k2
        exact ⟨by rw [k1, k3], k4⟩
  obtain ⟨k1, k2⟩ := key b.reverse c.reverse (fun t ht => by simpa using ht) (fun t ht => by rw [okAs_all] at g4; exact List.all_eq_true.1 g4 t (by simpa using ht)) (by simp; omega) (by simpa using e2)
  exact ⟨by rw [List.reverse_inj.1 k1], k2⟩
theorem apart_none {l : List Nd} (hl : l.length ≤ 2000) (h : bg l.length l.reverse ≠ some []) : apart l = .error 20 := by
  cases ha : apart l with
  | error e => rcases apart_err ha with ⟨h1, _⟩ | ⟨_, rfl⟩; (· omega); rfl
  | ok t =>
    obtain ⟨_, h2, h3, _, _⟩ := apart_ok.1 ha
    rw [okT_iff, Bool.and_eq_true] at h3
    exfalso
    apply h
    have := bg_tree t h3.1 l.length [] (by rw [h2]; exact Nat.le_refl _)
    rwa [List.append_nil, h2] at this
theorem apart_of {l : List Nd} (hl : l.length ≤ 2000) {t : Tr} (hA : okA t = true) (hf : flat t = l) : apart l = if t.nd.f0 ≠ 6 ∧ fineT t 20 = true then .ok t else .error 20 := by
  have hfi := fine_iff t 20
  by_cases hc : t.nd.f0 ≠ 6 ∧ fineT t 20 = true
  · rw [if_pos hc]
    rw [hc.2] at hfi
    have h2 := hfi.symm
    simp only [Bool.and_eq_true, decide_eq_true_eq] at h2
    exact apart_ok.2 ⟨hl, hf, by rw [okT_iff, hA, h2.1.1]; rfl, hc.1, by have := h2.2; omega⟩
  · rw [if_neg hc]
    cases ha : apart l with
    | error e => rcases apart_err ha with ⟨h1, _⟩ | ⟨_, rfl⟩; (· omega); rfl
    | ok u =>
      exfalso
      obtain ⟨_, g2, g3, g4, g5⟩ := apart_ok.1 ha
      rw [okT_iff, Bool.and_eq_true] at g3
      have hu := (okA_inj t hA u [] [] g3.1 (by rw [hf, g2])).1
      subst hu
      apply hc
      refine ⟨g4, ?_⟩
      rw [hfi, g3.2]
      simp; omega
end Go.Proofs.YtoefnmhmiphilaaGreatDoor.Tp

namespace Go.Proofs.YtoefnmhmiphilaaGreatDoor.Tp
open Go
theorem bl_irrefl : ∀ a : List UInt8, Op.bytesLess a a = false
  | [] => rfl
  | x :: a => by simp only [Op.bytesLess, bl_irrefl a, Bool.and_false, Bool.or_false]; simp
theorem bl_trans : ∀ a b c : List UInt8, Op.bytesLess a b = true → Op.bytesLess b c = true → Op.bytesLess a c = true
  | _, b, [], _, h => by cases b <;> simp [Op.bytesLess] at h
  | a, [], _ :: _, h, _ => by cases a <;> simp [Op.bytesLess] at h
  | [], _ :: _, _ :: _, _, _ => rfl
  | x :: a, y :: b, z :: c, h, k => by
    simp only [Op.bytesLess, Bool.or_eq_true, decide_eq_true_eq, Bool.and_eq_true, beq_iff_eq] at h k ⊢
    rcases h with h | ⟨rfl, h⟩
    · rcases k with k | ⟨rfl, k⟩
      · exact .inl (UInt8.lt_trans h k)
      · exact .inl h
    · rcases k with k | ⟨rfl, k⟩
      · exact .inl k
      · exact .inr ⟨rfl, bl_trans a b c h k⟩
theorem bl_tri : ∀ a b : List UInt8, Op.bytesLess a b = false → Op.bytesLess b a = false → a = b
  | [], [], _, _ => rfl
  | [], _ :: _, h, _ => by cases h
  | _ :: _, [], _, h => by cases h
  | x :: a, y :: b, h, k => by
    simp only [Op.bytesLess, Bool.or_eq_false_iff, decide_eq_false_iff_not, Bool.and_eq_false_iff, beq_eq_false_iff_ne] at h k
    have hxy : x = y := by
      rcases Nat.lt_trichotomy x.toNat y.toNat with h1 | h1 | h1
      · exact absurd (UInt8.lt_iff_toNat_lt.2 h1) h.1
      · exact UInt8.toNat_inj.1 h1
      · exact absurd (UInt8.lt_iff_toNat_lt.2 h1) k.1
    subst hxy
    rw [bl_tri a b (by simpa using h.2) (by simpa using k.2)]
theorem bl_asymm {a b : List UInt8} (h : Op.bytesLess a b = true) : Op.bytesLess b a = false := by
  cases hb : Op.bytesLess b a with
  | false => rfl
  | true => have := bl_trans a b a h hb; rw [bl_irrefl] at this; cases this
def keyLt (t u : Tr) : Prop := Op.bytesLess t.key u.key = true
def insKey (t : Tr) : List Tr → List Tr
  | [] => [t]
  | u :: us => if Op.bytesLess t.key u.key then t :: u :: us else u :: insKey t us
def byKey (b : List Tr) : List Tr := b.foldl (fun o t => insKey t o) []
theorem insKey_perm (t : Tr) : ∀ l, (insKey t l).Perm (t :: l)
  | [] => List.Perm.refl _
  | u :: us => by
    unfold insKey
    split
    · exact List.Perm.refl _
    · exact (List.Perm.cons u (insKey_perm t us)).trans (List.Perm.swap t u us)
theorem byKey_perm' : ∀ (b o : List Tr), (b.foldl (fun o t => insKey t o) o).Perm (b ++ o)
  | [], o => List.Perm.refl _
  | t :: b, o => by
    simp only [List.foldl_cons]
    refine (byKey_perm' b (insKey t o)).trans ?_
    refine ((List.Perm.refl b).append (insKey_perm t o)).trans ?_
    simp only [List.cons_append]
    exact List.perm_middle
theorem byKey_perm (b : List Tr) : (byKey b).Perm b := by have := byKey_perm' b []; rwa [List.append_nil] at this
theorem insKey_sorted {t : Tr} : ∀ {l : List Tr}, l.Pairwise keyLt → (∀ u ∈ l, u.key ≠ t.key) → (insKey t l).Pairwise keyLt
  | [], _, _ => by simp [insKey]
  | u :: us, h, hk => by
    rw [List.pairwise_cons] at h
    unfold insKey
    split
    · rename_i hlt
      refine List.pairwise_cons.2 ⟨?_, List.pairwise_cons.2 h⟩
      intro x hx
      rcases List.mem_cons.1 hx with rfl | hx
      · exact hlt
      · exact bl_trans _ _ _ hlt (h.1 x hx)
    · rename_i hlt
      have hut : keyLt u t := by
        cases hu : Op.bytesLess u.key t.key with
        | true => exact hu
        | false => exact absurd (bl_tri _ _ hu (by simpa using hlt)) (hk u (by simp))
      refine List.pairwise_cons.2 ⟨?_, insKey_sorted h.2 (fun x hx => hk x (by simp [hx]))⟩
      intro x hx
      rcases List.mem_cons.1 ((insKey_perm t us).mem_iff.1 hx) with rfl | hx
      · exact hut
      · exact h.1 x hx
theorem byKey_sorted' : ∀ (b o : List Tr), o.Pairwise keyLt → ((b ++ o).map Tr.key).Nodup → (b.foldl (fun o t => insKey t o) o).Pairwise keyLt
  | [], o, h, _ => h
  | t :: b, o, h, hn => by
    simp only [List.foldl_cons]
    have hp : ((b ++ insKey t o).map Tr.key).Perm ((t :: b ++ o).map Tr.key) :=
      (((List.Perm.refl b).append (insKey_perm t o)).trans (by simp only [List.cons_append]; exact List.perm_middle)).map _
    refine byKey_sorted' b (insKey t o) (insKey_sorted h ?_) (hp.nodup_iff.2 hn)
    intro u hu e
    simp only [List.cons_append, List.map_cons, List.nodup_cons, List.map_append, List.mem_append] at hn
    exact hn.1 (.inr (e ▸ List.mem_map_of_mem hu))
theorem byKey_sorted {b : List Tr} (h : (b.map Tr.key).Nodup) : (byKey b).Pairwise keyLt := byKey_sorted' b [] List.Pairwise.nil (by simpa using h)
theorem sorted_unique : ∀ {l m : List Tr}, l.Perm m → l.Pairwise keyLt → m.Pairwise keyLt → l = m
  | [], m, h, _, _ => (List.nil_perm.1 h).symm
  | a :: l, [], h, _, _ => absurd h (by simp)
  | a :: l, b :: m, h, hl, hm => by
    rw [List.pairwise_cons] at hl hm
    have hab : a = b := by
      rcases List.mem_cons.1 (h.mem_iff.1 (List.mem_cons_self (a := a) (l := l))) with e | ha
      · exact e
      · rcases List.mem_cons.1 (h.mem_iff.2 (List.mem_cons_self (a := b) (l := m))) with e | hb
        · exact e.symm
        · have h1 := hm.1 a ha
          have h2 := hl.1 b hb
          unfold keyLt at h1 h2
          rw [bl_asymm h1] at h2; cases h2
    subst hab
    rw [sorted_unique (List.perm_cons a |>.1 h) hl.2 hm.2]
mutual
def sortT : Tr → Tr
  | .mk n b => .mk n (if n.f0 = 7 then byKey (sortTs b) else sortTs b)
def sortTs : List Tr → List Tr
  | [] => []
  | t :: ts => sortT t :: sortTs ts
end
theorem sortTs_map : ∀ b, sortTs b = b.map sortT
  | [] => rfl
  | t :: b => by simp only [sortTs, List.map_cons, sortTs_map b]
theorem nd_sortT (t : Tr) : (sortT t).nd = t.nd := by cases t; rfl
theorem key_sortT (t : Tr) : (sortT t).key = t.key := by unfold Tr.key; rw [nd_sortT]
theorem insKey_map (t : Tr) : ∀ l, insKey (sortT t) (l.map sortT) = (insKey t l).map sortT
  | [] => rfl
  | u :: us => by
    simp only [List.map_cons, insKey, key_sortT]
    split
    · rfl
    · rw [List.map_cons, insKey_map t us]
theorem byKey_map' : ∀ (b o : List Tr), (b.map sortT).foldl (fun o t => insKey t o) (o.map sortT) = (b.foldl (fun o t => insKey t o) o).map sortT
  | [], o => rfl
  | t :: b, o => by
    simp only [List.map_cons, List.foldl_cons, insKey_map]
    exact byKey_map' b (insKey t o)
theorem byKey_map (b : List Tr) : byKey (b.map sortT) = (byKey b).map sortT := byKey_map' b []
theorem sortT_ref (n : Nd) (b : List Tr) : sortT (.mk n b) = .mk n ((if n.f0 = 7 then byKey b else b).map sortT) := by
  simp only [sortT, sortTs_map]
  split
  · rw [byKey_map]
  · rfl
end Go.Proofs.YtoefnmhmiphilaaGreatDoor.Tp

namespace Go.Proofs.YtoefnmhmiphilaaGreatDoor.Tp
open Go
def quo (s : ByteArray) : List UInt8 := (quote s.data.toList).getD []
def head (n : Nd) : List UInt8 :=
  if n.f0 = 1 then [110, 117, 108, 108]
  else if n.f0 = 2 then (if n.f2 = 1 then [116, 114, 117, 101] else [102, 97, 108, 115, 101])
  else if n.f0 = 3 then Lib.itoa n.f2
  else if n.f0 = 4 then quo n.f1
  else if n.f0 = 6 then quo n.f1 ++ [58]
  else if n.f0 = 5 then [91]
  else if n.f0 = 7 then [123]
  else []
def foot (n : Nd) : List UInt8 := if n.f0 = 5 then [93] else if n.f0 = 7 then [125] else []
mutual
def tell : Tr → List UInt8
  | .mk n b => head n ++ tells b ++ foot n
def tells : List Tr → List UInt8
  | [] => []
  | t :: ts => tell t ++ more ts
def more : List Tr → List UInt8
  | [] => []
  | t :: ts => 44 :: tell t ++ more ts
end
theorem s_end (t acc : List UInt8) : str (34 :: t) acc = .ok (acc, t) := by unfold str; rw [if_pos rfl]
theorem s_bs (y : UInt8) (u acc : List UInt8) (h : y = 34 ∨ y = 92) : str (92 :: y :: u) acc = str u (acc ++ [y]) := by
  rw [str.eq_def]
  simp only
  rw [if_neg (by decide), if_pos trivial, if_pos h]
theorem s_nl (u acc : List UInt8) : str (92 :: 110 :: u) acc = str u (acc ++ [10]) := by
  rw [str.eq_def]
  simp only
  rw [if_neg (by decide), if_pos trivial, if_neg (by decide), if_pos trivial]
theorem s_one (c : UInt8) (u acc : List UInt8) (h1 : ¬(c = 34 ∨ c = 92)) (h3 : ¬(c.toNat < 32 ∨ 126 < c.toNat)) : str (c :: u) acc = str u (acc ++ [c]) := by
  rw [str.eq_def]
  simp only
  rw [if_neg (fun e => h1 (.inl e)), if_neg (fun e => h1 (.inr e)), if_neg h3]
theorem okc_iff (c : UInt8) : okc c = true ↔ c = 10 ∨ 32 ≤ c.toNat ∧ c.toNat ≤ 126 := by
  unfold okc
  simp
theorem esc_of {c : UInt8} (h : okc c = true) : ∃ x, esc c = some x ∧ ∀ u acc, str (x ++ u) acc = str u (acc ++ [c]) := by
  rw [okc_iff] at h
  unfold esc
  by_cases h1 : c = 34 ∨ c = 92
  · rw [if_pos h1]; exact ⟨_, rfl, fun u acc => s_bs _ _ _ h1⟩
  · rw [if_neg h1]
    by_cases h2 : c = 10
    · rw [if_pos h2]; exact ⟨_, rfl, fun u acc => by rw [h2]; exact s_nl _ _⟩
    · rw [if_neg h2]
      have h3 : ¬ (c.toNat < 32 ∨ 126 < c.toNat) := by
        rcases h with h | h
        · exact absurd h h2
        · omega
      rw [if_neg h3]
      exact ⟨_, rfl, fun u acc => s_one _ _ _ h1 h3⟩
theorem escs_of : ∀ {s : List UInt8}, s.all okc = true → ∃ y, escs s = some y ∧ ∀ t acc, str (y ++ 34 :: t) acc = .ok (acc ++ s, t)
  | [], _ => ⟨[], rfl, fun t acc => by simp [s_end]⟩
  | c :: s, h => by
    simp only [List.all_cons, Bool.and_eq_true] at h
    obtain ⟨x, hx1, hx2⟩ := esc_of h.1
    obtain ⟨y, hy1, hy2⟩ := escs_of h.2
    refine ⟨x ++ y, by simp only [escs, hx1, hy1], fun t acc => ?_⟩
    rw [List.append_assoc, hx2, hy2]; simp
theorem quo_of {s : ByteArray} (h : texted s = true) : ∃ y, quo s = 34 :: (y ++ [34]) ∧ quote s.data.toList = some (quo s) ∧ ∀ t, str (y ++ 34 :: t) [] = .ok (s.data.toList, t) := by
  obtain ⟨y, h1, h2⟩ := escs_of (s := s.data.toList) h
  have hq : quote s.data.toList = some (34 :: (y ++ [34])) := by unfold quote; rw [h1]; rfl
  refine ⟨y, ?_, ?_, fun t => by simpa using h2 t []⟩
  · unfold quo; rw [hq]; rfl
  · unfold quo; rw [hq]; rfl
theorem str_out : ∀ (k : Nat) (r acc o r1 : List UInt8), r.length < k → acc.all okc = true → str r acc = .ok (o, r1) → o.all okc = true
  | 0, _, _, _, _, h, _, _ => absurd h (Nat.not_lt_zero _)
  | k + 1, [], _, _, _, _, _, h => by unfold str at h; cases h
  | k + 1, x :: t, acc, o, r1, hk, ha, h => by
    simp only [List.length_cons] at hk
    rw [str.eq_def] at h
    simp only at h
    split at h
    · cases h; exact ha
    · split at h
      · split at h
        · cases h
        · rename_i y u
          simp only [List.length_cons] at hk
          split at h
          · rename_i hy
            exact str_out k u _ _ _ (by omega) (by rw [List.all_append, ha]; rcases hy with rfl | rfl <;> rfl) h
          · split at h
            · exact str_out k u _ _ _ (by omega) (by rw [List.all_append, ha]; rfl) h
            · cases h
      · split at h
        · cases h
        · rename_i hb
          exact str_out k t _ _ _ (by omega) (by rw [List.all_append, ha]; simp only [List.all_cons, List.all_nil, Bool.and_true, Bool.true_and]; rw [okc_iff]; right; omega) h
end Go.Proofs.YtoefnmhmiphilaaGreatDoor.Tp

namespace Go.Proofs.YtoefnmhmiphilaaGreatDoor.Tp
open Go
theorem v_snoc : ∀ (l : List UInt8) (c : UInt8) (m : Int), val (l ++ [c]) m = 10 * val l m + ((c.toNat : Int) - 48)
  | [], c, m => rfl
  | x :: l, c, m => by simp only [List.cons_append, val]; exact v_snoc l c _
theorem dig_of {u : Nat} (h : u < 10) : digit (UInt8.ofNat (48 + u)) = true ∧ ((UInt8.ofNat (48 + u)).toNat : Int) - 48 = u := by
  have : (UInt8.ofNat (48 + u)).toNat = 48 + u := by simp; omega
  refine ⟨?_, by omega⟩
  simp only [digit, this, Bool.and_eq_true, decide_eq_true_eq]; omega
theorem dec_back (u : Nat) : val (Lib.decDigits u) 0 = u ∧ (Lib.decDigits u).all digit = true ∧ Lib.decDigits u ≠ [] ∧ ((Lib.decDigits u).head? = some 48 → u = 0) := by
  induction u using Nat.strongRecOn with
  | _ u ih =>
    by_cases h : u < 10
    · rw [Lib.decDigits_one h]
      obtain ⟨h1, h2⟩ := dig_of h
      refine ⟨by simp only [val]; omega, by simp only [List.all_cons, List.all_nil, Bool.and_true]; exact h1, by simp, fun e => ?_⟩
      simp only [List.head?_cons, Option.some.injEq] at e
      rw [e] at h2
      have : ((48 : UInt8).toNat : Int) = 48 := rfl
      omega
    · rw [Lib.decDigits, dif_neg h]
      obtain ⟨i1, i2, i3, i4⟩ := ih (u / 10) (by omega)
      obtain ⟨h1, h2⟩ := dig_of (u := u % 10) (by omega)
      refine ⟨by rw [v_snoc, i1, h2]; omega, by rw [List.all_append, i2]; simp only [List.all_cons, List.all_nil, Bool.and_true, Bool.true_and]; exact h1, by simp, fun e => ?_⟩
      cases hd : Lib.decDigits (u / 10) with
      | nil => exact absurd hd i3
      | cons c t =>
        rw [hd] at e i4
        simp only [List.cons_append, List.head?_cons] at e i4
        have := i4 e
        omega
theorem nDig_le : ∀ (k u : Nat), u < 10 ^ (k + 1) → Lib.nDigits u ≤ k + 1
  | 0, u, h => by rw [Lib.nDigits, dif_pos (by simpa using h)]; omega
  | k + 1, u, h => by
    rw [Lib.nDigits]
    split
    · omega
    · have := nDig_le k (u / 10) (by rw [Nat.pow_succ] at h; omega)
      omega
theorem digit_45 {l : List UInt8} (h : l.all digit = true) : l.head? ≠ some 45 := by
  cases l with
  | nil => simp
  | cons c t =>
    intro e
    simp only [List.head?_cons, Option.some.injEq] at e
    subst e
    simp [digit] at h
theorem num_itoa {n : Int} (h1 : -999999 ≤ n) (h2 : n ≤ 999999) : num (Lib.itoa n) = some n := by
  unfold Lib.itoa
  by_cases hn : n < 0
  · rw [if_pos hn]
    obtain ⟨i1, i2, i3, i4⟩ := dec_back n.natAbs
    have hl : (Lib.decDigits n.natAbs).length ≤ 6 := by rw [Lib.decDigits_length]; exact nDig_le 5 _ (by omega)
    unfold num
    simp only [List.head?_cons, if_true, List.tail_cons]
    rw [if_neg, i1]
    · congr 1; omega
    · simp only [not_or, not_and, Bool.not_eq_false]
      exact ⟨i3, by omega, i2, fun e => absurd (i4 e) (by omega)⟩
  · rw [if_neg hn]
    obtain ⟨i1, i2, i3, i4⟩ := dec_back n.toNat
    have hl : (Lib.decDigits n.toNat).length ≤ 6 := by rw [Lib.decDigits_length]; exact nDig_le 5 _ (by omega)
    have h45 := digit_45 i2
    unfold num
    simp only [if_neg h45]
    rw [if_neg, i1]
    · congr 1; omega
    · simp only [not_or, not_and, Bool.not_eq_false]
      refine ⟨i3, by omega, i2, fun e h => h ?_⟩
      rw [i4 e, Lib.decDigits_one (by omega)]
      rfl
theorem itoa_head (n : Int) : ∃ c t, Lib.itoa n = c :: t ∧ (digit c || c == 45) = true ∧ small c = false ∧ blank c = false ∧ c ≠ 93 ∧ c ≠ 125 ∧ t.all digit = true := by
  have hd : ∀ c, digit c = true → small c = false ∧ blank c = false ∧ c ≠ 93 ∧ c ≠ 125 := by
    intro c hc
    simp only [digit, Bool.and_eq_true, decide_eq_true_eq] at hc
    have hne : ∀ k : UInt8, ¬(48 ≤ k.toNat ∧ k.toNat ≤ 57) → c ≠ k := fun k hk e => hk (e ▸ hc)
    refine ⟨?_, ?_, hne _ (by decide), hne _ (by decide)⟩
    · simp only [small, Bool.and_eq_false_iff, decide_eq_false_iff_not]; left; omega
    · simp only [blank, Bool.or_eq_false_iff, beq_eq_false_iff_ne]
      exact ⟨⟨hne _ (by decide), hne _ (by decide)⟩, hne _ (by decide)⟩
  unfold Lib.itoa
  split
  · exact ⟨45, _, rfl, by decide, by decide, by decide, by decide, by decide, (dec_back _).2.1⟩
  · obtain ⟨_, i2, i3, _⟩ := dec_back n.toNat
    cases hl : Lib.decDigits n.toNat with
    | nil => exact absurd hl i3
    | cons c t =>
      rw [hl] at i2
      simp only [List.all_cons, Bool.and_eq_true] at i2
      obtain ⟨a1, a2, a3, a4⟩ := hd c i2.1
      exact ⟨c, t, rfl, by rw [i2.1]; rfl, a1, a2, a3, a4, i2.2⟩
theorem may_kind {n : Nd} (h : may n = true) : n.f0 = 1 ∨ n.f0 = 2 ∨ n.f0 = 3 ∨ n.f0 = 4 ∨ n.f0 = 5 ∨ n.f0 = 6 ∨ n.f0 = 7 := by
  simp only [may, Bool.and_eq_true] at h
  have h := h.1
  unfold mayK at h
  split at h; · simp [*]
  split at h; · simp [*]
  split at h; · simp [*]
  split at h; · simp [*]
  split at h; · simp [*]
  split at h
  · rename_i h57; rcases h57 with h | h <;> simp [h]
  · cases h
theorem tell_head {t : Tr} (h : okT t = true) (h6 : t.nd.f0 ≠ 6) : ∃ c r, tell t = c :: r ∧ blank c = false ∧ c ≠ 93 ∧ c ≠ 125 := by
  obtain ⟨n, b⟩ := t
  simp only [okT, Bool.and_eq_true] at h
  have hm := h.1.1.2
  have ht : texted n.f1 = true := by simp only [may, Bool.and_eq_true] at hm; exact hm.2
  simp only [Tr.nd] at h6
  rw [tell]
  rcases may_kind hm with h | h | h | h | h | h | h
  · simp only [head, h, if_true]; exact ⟨_, _, rfl, by decide, by decide, by decide⟩
  · simp only [head, h]
    by_cases h1 : n.f2 = 1
    · simp only [h1]; exact ⟨116, _, rfl, by decide, by decide, by decide⟩
    · simp only [if_neg h1]; exact ⟨102, _, rfl, by decide, by decide, by decide⟩
  · obtain ⟨c, r, e, _, _, a3, a4, a5, _⟩ := itoa_head n.f2
    simp only [head, h, e]; exact ⟨c, _, rfl, a3, a4, a5⟩
  · obtain ⟨y, e, _⟩ := quo_of ht
    simp only [head, h, e]; exact ⟨34, _, rfl, by decide, by decide, by decide⟩
  · simp only [head, h]; exact ⟨91, _, rfl, by decide, by decide, by decide⟩
  · exact absurd h h6
  · simp only [head, h]; exact ⟨123, _, rfl, by decide, by decide, by decide⟩
theorem mem_head {t : Tr} (h : okT t = true) (h6 : t.nd.f0 = 6) : ∃ r, tell t = 34 :: r := by
  obtain ⟨n, b⟩ := t
  simp only [okT, Bool.and_eq_true] at h
  have hm := h.1.1.2
  have ht : texted n.f1 = true := by simp only [may, Bool.and_eq_true] at hm; exact hm.2
  simp only [Tr.nd] at h6
  obtain ⟨y, e, _⟩ := quo_of ht
  rw [tell]
  simp only [head, h6, e]
  exact ⟨_, rfl⟩
theorem more_follow (ts : List Tr) {e : UInt8} (he : e = 93 ∨ e = 125) (x : List UInt8) : Follow (more ts ++ e :: x) := by
  cases ts with
  | nil => exact follow_at (by rcases he with rfl | rfl <;> simp) x
  | cons t ts => rw [more]; exact follow_at (.inl rfl) _
theorem more_len : ∀ ts : List Tr, ts.length ≤ (more ts).length
  | [] => Nat.le_refl _
  | t :: ts => by rw [more]; have := more_len ts; simp; omega
theorem skip_self' {c : UInt8} {r : List UInt8} (h : blank c = false) : skip (c :: r) = c :: r := skip_nb h r
theorem row_tell {σ : Type} {e : UInt8} (he : e = 93 ∨ e = 125) {each : σ → List UInt8 → Except (Int × Nat) (List Nd × List UInt8 × σ)} (step : σ → Tr → σ) :
    ∀ (ts : List Tr) (t : Tr) (k : Nat) (st : σ) (o : List Nd) (n : Int) (x : List UInt8),
      (∀ u ∈ t :: ts, ∃ c r, tell u = c :: r ∧ blank c = false ∧ c ≠ e) →
      (∀ (pre post : List Tr) (u : Tr), t :: ts = pre ++ u :: post → ∀ y, Follow y → each (pre.foldl step st) (tell u ++ y) = .ok (flat u, y, step (pre.foldl step st) u)) →
      ts.length < k → row e each k st (tell t ++ (more ts ++ e :: x)) o n = .ok (o ++ flats (t :: ts), x, n + ts.length) := by
  intro ts
  induction ts with
  | nil =>
    intro t k st o n x hh hE hk
    obtain ⟨k, rfl⟩ : ∃ k', k = k' + 1 := ⟨k - 1, by omega⟩
    have h1 := hE [] [] t rfl (more [] ++ e :: x) (more_follow [] he x)
    simp only [List.foldl_nil] at h1
    rw [show more [] ++ e :: x = e :: x from rfl] at h1 ⊢
    simp only [row, h1]
    have hb : blank e = false := by rcases he with rfl | rfl <;> decide
    have h44 : ¬ e = 44 := by rcases he with rfl | rfl <;> decide
    simp only [skip_self' hb, if_neg h44, if_true, flats, List.append_nil]
    simp
  | cons u us ih =>
    intro t k st o n x hh hE hk
    obtain ⟨k, rfl⟩ : ∃ k', k = k' + 1 := ⟨k - 1, by omega⟩
    have h1 := hE [] (u :: us) t rfl (more (u :: us) ++ e :: x) (more_follow _ he x)
    simp only [List.foldl_nil] at h1
    simp only [row, h1]
    rw [more, List.cons_append]
    simp only [List.cons_append, skip_self' (show blank 44 = false by decide), if_true]
    obtain ⟨c, r, e1, e2, e3⟩ := hh u (by simp)
    have hsk : skip (tell u ++ more us ++ e :: x) = c :: (r ++ more us ++ e :: x) := by rw [e1, List.cons_append, List.cons_append]; exact skip_self' e2
    rw [hsk]
    simp only [if_neg e3]
    have h2 := ih u k (step st t) (o ++ flat t) (n + 1) x (fun v hv => hh v (by simp only [List.mem_cons] at hv ⊢; exact .inr hv))
      (fun pre post v hv y hy => by
        have := hE (t :: pre) post v (by rw [hv]; rfl) y hy
        simpa using this) (by simp at hk; omega)
    rw [e1, List.cons_append, ← List.append_assoc] at h2
    rw [h2]
    simp only [flats, List.append_assoc, List.length_cons, Except.ok.injEq, Prod.mk.injEq, true_and]
    omega
end Go.Proofs.YtoefnmhmiphilaaGreatDoor.Tp

namespace Go.Proofs.YtoefnmhmiphilaaGreatDoor.Tp
open Go
theorem nd_eq {n : Nd} {k m c : Int} (h0 : n.f0 = k) (h1 : n.f1.data.toList = []) (h2 : n.f2 = m) (h3 : n.f3 = c) : n = nd k m c := by
  obtain ⟨a, s, e, f⟩ := n
  simp only at h0 h1 h2 h3
  subst h0 h2 h3
  have : s = ⟨#[]⟩ := ByteArray.ext (by simpa using h1)
  rw [this]; rfl
theorem v_head (d : Nat) {r : List UInt8} {b : UInt8} {t : List UInt8} (hs : skip r = b :: t) : value (d + 1) r = if small b then word (b :: t) else if digit b || b == 45 then number (b :: t) else if b = 34 then (match str t [] with | .error x => .error x | .ok (s, r1) => .ok ([⟨4, ⟨s.toArray⟩, 0, 0⟩], r1)) else if b = 91 then (match rows 93 (elem (value d)) () t with | .error x => .error x | .ok (o, r1, n) => .ok (o ++ [nd 5 0 n], r1)) else if b = 123 then (match rows 125 (member (value d)) [] t with | .error x => .error x | .ok (o, r1, n) => .ok (o ++ [nd 7 0 n], r1)) else .error (10, t.length + 1) := by
  unfold value
  rw [hs]
  rfl
theorem word_of {w x : List UInt8} (hw : w.all small = true) (hx : Follow x) : (w ++ x).takeWhile small = w ∧ (w ++ x).dropWhile small = x :=
  while_follow hw (fun c t e => (hx c t e).1)
theorem keys_fold : ∀ (pre : List Tr) (st : List (List UInt8)), pre.foldl (fun st u => st ++ [u.key]) st = st ++ pre.map Tr.key
  | [], st => by simp
  | t :: pre, st => by simp [keys_fold pre]
theorem deeps_mem {t : Tr} {b : List Tr} (h : t ∈ b) : deep t ≤ deeps b := by
  induction b with
  | nil => cases h
  | cons u us ih =>
    rw [deeps]
    rcases List.mem_cons.1 h with rfl | h
    · omega
    · have := ih h; omega
theorem tell_value : ∀ t : Tr, okT t = true → ((t.nd.f0 ≠ 6 → ∀ d, deep t ≤ d → ∀ x, Follow x → value d (tell t ++ x) = .ok (flat t, x)) ∧
    (t.nd.f0 = 6 → ∀ d, deep t ≤ d → ∀ x ks, Follow x → t.key ∉ ks → member (value d) ks (tell t ++ x) = .ok (flat t, x, ks ++ [t.key]))) := by
  apply Tr.ind
  intro n b ih h
  simp only [okT, Bool.and_eq_true, decide_eq_true_eq] at h
  obtain ⟨⟨⟨h3, hm⟩, hf⟩, hs⟩ := h
  have hall : ∀ u ∈ b, okT u = true := fun u hu => by rw [okTs_all] at hs; exact List.all_eq_true.1 hs u hu
  have ht : texted n.f1 = true := by simp only [may, Bool.and_eq_true] at hm; exact hm.2
  have hmk : mayK n = true := by simp only [may, Bool.and_eq_true] at hm; exact hm.1
  simp only [fits, Bool.and_eq_true] at hf
  have hkind : ∀ u ∈ b, ((u.nd.f0 == 6) == (n.f0 == 7)) = true := fun u hu => List.all_eq_true.1 hf.1 u hu
  refine ⟨?_, ?_⟩
  · intro h6 d hd x hx
    simp only [Tr.nd] at h6
    rw [deep, if_neg h6] at hd
    obtain ⟨d, rfl⟩ : ∃ d', d = d' + 1 := ⟨d - 1, by omega⟩
    rw [tell]
    rcases may_kind hm with h0 | h0 | h0 | h0 | h0 | h0 | h0
    · simp only [mayK, h0, if_true, decide_eq_true_eq] at hmk
      have hb : b = [] := List.eq_nil_of_length_eq_zero (by omega)
      subst hb
      have hn := nd_eq h0 hmk.1 hmk.2.1 hmk.2.2
      simp only [head, foot, h0, if_true, tells, flat, flats]
      obtain ⟨w1, w2⟩ := word_of (w := [110, 117, 108, 108]) (by decide) hx
      have hv := v_head d (r := [110, 117, 108, 108] ++ x) (b := 110) (t := [117, 108, 108] ++ x) (skip_self' (by decide))
      rw [if_pos (by decide)] at hv
      have h57 : ¬ ((1 : Int) = 5) ∧ ¬ ((1 : Int) = 7) := by decide
      simp only [if_neg h57.1, if_neg h57.2, List.append_nil, List.nil_append]
      rw [hv, show (110 :: ([117, 108, 108] ++ x) : List UInt8) = [110, 117, 108, 108] ++ x from rfl]
      simp only [word, w1, w2, if_true]
      rw [hn]
    · simp only [mayK, h0] at hmk
      simp only [show ¬ ((2 : Int) = 1) by decide, if_false, if_true, decide_eq_true_eq] at hmk
      have hb : b = [] := List.eq_nil_of_length_eq_zero (by omega)
      subst hb
      simp only [head, foot, h0, tells, flat, flats]
      simp only [show ¬ ((2 : Int) = 1) by decide, show ¬ ((2 : Int) = 5) by decide, show ¬ ((2 : Int) = 7) by decide, if_false, if_true, List.append_nil, List.nil_append]
      rcases hmk.2.1 with h2 | h2
      · have hn := nd_eq h0 hmk.1 h2 hmk.2.2
        obtain ⟨w1, w2⟩ := word_of (w := [102, 97, 108, 115, 101]) (by decide) hx
        have hv := v_head d (r := [102, 97, 108, 115, 101] ++ x) (b := 102) (t := [97, 108, 115, 101] ++ x) (skip_self' (by decide))
        rw [if_pos (by decide)] at hv
        rw [if_neg (by rw [h2]; decide), hv, show (102 :: ([97, 108, 115, 101] ++ x) : List UInt8) = [102, 97, 108, 115, 101] ++ x from rfl]
        simp only [word, w1, w2]
        rw [if_neg (by decide), if_neg (by decide), if_pos trivial, hn]
      · have hn := nd_eq h0 hmk.1 h2 hmk.2.2
        obtain ⟨w1, w2⟩ := word_of (w := [116, 114, 117, 101]) (by decide) hx
        have hv := v_head d (r := [116, 114, 117, 101] ++ x) (b := 116) (t := [114, 117, 101] ++ x) (skip_self' (by decide))
        rw [if_pos (by decide)] at hv
        rw [if_pos h2, hv, show (116 :: ([114, 117, 101] ++ x) : List UInt8) = [116, 114, 117, 101] ++ x from rfl]
        simp only [word, w1, w2]
        rw [if_neg (by decide), if_pos trivial, hn]
    · simp only [mayK, h0] at hmk
      simp only [show ¬ ((3 : Int) = 1) by decide, show ¬ ((3 : Int) = 2) by decide, if_false, if_true, decide_eq_true_eq] at hmk
      have hb : b = [] := List.eq_nil_of_length_eq_zero (by omega)
      subst hb
      simp only [head, foot, h0, tells, flat, flats]
      simp only [show ¬ ((3 : Int) = 1) by decide, show ¬ ((3 : Int) = 2) by decide, show ¬ ((3 : Int) = 5) by decide, show ¬ ((3 : Int) = 7) by decide, if_false, if_true, List.append_nil, List.nil_append]
      have hn := nd_eq h0 hmk.1 (rfl : n.f2 = n.f2) hmk.2.2.2
      obtain ⟨c, t, e, a1, a2, a3, a4, a5, a6⟩ := itoa_head n.f2
      have hnum := num_itoa hmk.2.1 hmk.2.2.1
      rw [e] at hnum ⊢
      obtain ⟨w1, w2⟩ := while_follow (x := x) a6 (fun c t e => (hx c t e).2)
      rw [List.cons_append, v_head d (skip_self' a3), if_neg (by rw [a2]; decide), if_pos a1]
      simp only [number, w1, w2, hnum]
      rw [hn]; rfl
    · simp only [mayK, h0] at hmk
      simp only [show ¬ ((4 : Int) = 1) by decide, show ¬ ((4 : Int) = 2) by decide, show ¬ ((4 : Int) = 3) by decide, if_false, if_true, decide_eq_true_eq] at hmk
      have hb : b = [] := List.eq_nil_of_length_eq_zero (by omega)
      subst hb
      simp only [head, foot, h0, tells, flat, flats]
      simp only [show ¬ ((4 : Int) = 1) by decide, show ¬ ((4 : Int) = 2) by decide, show ¬ ((4 : Int) = 3) by decide, show ¬ ((4 : Int) = 5) by decide, show ¬ ((4 : Int) = 7) by decide, if_false, if_true, List.append_nil, List.nil_append]
      obtain ⟨y, e, _, hy⟩ := quo_of ht
      rw [e, List.cons_append, List.append_assoc, v_head d (skip_self' (by decide)), if_neg (by decide), if_neg (by decide), if_pos rfl]
      rw [List.cons_append, List.nil_append, hy x]
      simp only
      obtain ⟨f0, f1, f2, f3⟩ := n
      simp only at h0 hmk
      obtain ⟨rfl, rfl⟩ := hmk
      subst h0
      rfl
    · simp only [mayK, h0] at hmk
      simp only [show ¬ ((5 : Int) = 1) by decide, show ¬ ((5 : Int) = 2) by decide, show ¬ ((5 : Int) = 3) by decide, show ¬ ((5 : Int) = 4) by decide, show ¬ ((5 : Int) = 6) by decide, true_or, if_false, if_true, decide_eq_true_eq] at hmk
      have hn := nd_eq h0 hmk.1 hmk.2 (rfl : n.f3 = n.f3)
      simp only [head, foot, h0, flat]
      simp only [show ¬ ((5 : Int) = 1) by decide, show ¬ ((5 : Int) = 2) by decide, show ¬ ((5 : Int) = 3) by decide, show ¬ ((5 : Int) = 4) by decide, show ¬ ((5 : Int) = 6) by decide, if_false, if_true]
      rw [List.append_assoc, List.append_assoc, List.cons_append, List.nil_append, v_head d (skip_self' (by decide)), if_neg (by decide), if_neg (by decide), if_neg (by decide), if_pos rfl]
      have hk6 : ∀ u ∈ b, u.nd.f0 ≠ 6 := fun u hu => by
        have := hkind u hu
        rw [h0] at this
        simpa using this
      have hrows : rows 93 (elem (value d)) () (tells b ++ ([93] ++ x)) = .ok (flats b, x, (b.length : Int)) := by
        cases b with
        | nil => simp [rows, tells, skip_self' (show blank 93 = false by decide), flats]
        | cons u us =>
          obtain ⟨c, r, e1, e2, e3, e4⟩ := tell_head (hall u (by simp)) (hk6 u (by simp))
          have hrt := row_tell (e := 93) (.inl rfl) (each := elem (value d)) (fun s _ => s) us u ((tells (u :: us) ++ ([93] ++ x)).length + 1) () [] 1 x
            (fun v hv => by obtain ⟨c, r, e1, e2, e3, e4⟩ := tell_head (hall v hv) (hk6 v hv); exact ⟨c, r, e1, e2, e3⟩)
            (fun pre post v hv y hy => by
              have hm' : v ∈ u :: us := by rw [hv]; simp
              have := (ih v hm' (hall v hm')).1 (hk6 v hm') d (by have := deeps_mem hm'; omega) y hy
              simp only [elem, this])
            (by have := more_len us; rw [tells]; simp; omega)
          rw [tells, List.append_assoc, List.cons_append, List.nil_append] at *
          unfold rows
          have hsk : skip (tell u ++ (more us ++ 93 :: x)) = c :: (r ++ (more us ++ 93 :: x)) := by rw [e1, List.cons_append]; exact skip_self' e2
          rw [hsk]
          simp only [if_neg e3]
          rw [e1, List.cons_append] at hrt
          rw [e1, List.cons_append, hrt]
          simp; omega
      rw [hrows]
      simp only
      rw [hn, ← h3]
    · exact absurd h0 h6
    · simp only [mayK, h0] at hmk
      simp only [show ¬ ((7 : Int) = 1) by decide, show ¬ ((7 : Int) = 2) by decide, show ¬ ((7 : Int) = 3) by decide, show ¬ ((7 : Int) = 4) by decide, show ¬ ((7 : Int) = 6) by decide, or_true, if_false, if_true, decide_eq_true_eq] at hmk
      have hn := nd_eq h0 hmk.1 hmk.2 (rfl : n.f3 = n.f3)
      simp only [head, foot, h0, flat]
      simp only [show ¬ ((7 : Int) = 1) by decide, show ¬ ((7 : Int) = 2) by decide, show ¬ ((7 : Int) = 3) by decide, show ¬ ((7 : Int) = 4) by decide, show ¬ ((7 : Int) = 6) by decide, show ¬ ((7 : Int) = 5) by decide, if_false, if_true]
      rw [List.append_assoc, List.append_assoc, List.cons_append, List.nil_append, v_head d (skip_self' (by decide)), if_neg (by decide), if_neg (by decide), if_neg (by decide), if_neg (by decide), if_pos rfl]
      have hk6 : ∀ u ∈ b, u.nd.f0 = 6 := fun u hu => by
        have := hkind u hu
        rw [h0] at this
        simpa using this
      have hkeys : (b.map Tr.key).Nodup := by
        have := hf.2
        unfold keysOk at this
        rw [h0] at this
        simpa using this
      have hrows : rows 125 (member (value d)) [] (tells b ++ ([125] ++ x)) = .ok (flats b, x, (b.length : Int)) := by
        cases b with
        | nil => simp [rows, tells, skip_self' (show blank 125 = false by decide), flats]
        | cons u us =>
          obtain ⟨r, e1⟩ := mem_head (hall u (by simp)) (hk6 u (by simp))
          have hrt := row_tell (e := 125) (.inr rfl) (each := member (value d)) (fun st v => st ++ [v.key]) us u ((tells (u :: us) ++ ([125] ++ x)).length + 1) [] [] 1 x
            (fun v hv => by obtain ⟨r, e1⟩ := mem_head (hall v hv) (hk6 v hv); exact ⟨34, r, e1, by decide, by decide⟩)
            (fun pre post v hv y hy => by
              have hm' : v ∈ u :: us := by rw [hv]; simp
              rw [keys_fold, List.nil_append]
              refine (ih v hm' (hall v hm')).2 (hk6 v hm') d (by have := deeps_mem hm'; omega) y _ hy ?_
              rw [hv, List.map_append, List.map_cons, List.nodup_append] at hkeys
              intro hin
              exact hkeys.2.2 _ hin _ (by simp) rfl)
            (by have := more_len us; rw [tells]; simp; omega)
          rw [tells, List.append_assoc, List.cons_append, List.nil_append] at *
          unfold rows
          have hsk : skip (tell u ++ (more us ++ 125 :: x)) = 34 :: (r ++ (more us ++ 125 :: x)) := by rw [e1, List.cons_append]; exact skip_self' (by decide)
          rw [hsk]
          simp only [show ¬ ((34 : UInt8) = 125) by decide, if_false]
          rw [e1, List.cons_append] at hrt
          rw [e1, List.cons_append, hrt]
          simp; omega
      rw [hrows]
      simp only
      rw [hn, ← h3]
  · intro h6 d hd x ks hx hk
    simp only [Tr.nd] at h6
    simp only [Tr.key, Tr.nd] at hk
    rw [deep, if_pos h6] at hd
    simp only [mayK, h6] at hmk
    simp only [show ¬ ((6 : Int) = 1) by decide, show ¬ ((6 : Int) = 2) by decide, show ¬ ((6 : Int) = 3) by decide, show ¬ ((6 : Int) = 4) by decide, if_false, if_true, decide_eq_true_eq] at hmk
    obtain ⟨c, hb⟩ : ∃ c, b = [c] := List.length_eq_one_iff.1 (by omega)
    subst hb
    have hc6 : c.nd.f0 ≠ 6 := by
      have := hkind c (by simp)
      rw [h6] at this
      simpa using this
    rw [tell]
    simp only [head, foot, h6, tells, more, flat, flats]
    simp only [show ¬ ((6 : Int) = 1) by decide, show ¬ ((6 : Int) = 2) by decide, show ¬ ((6 : Int) = 3) by decide, show ¬ ((6 : Int) = 4) by decide, show ¬ ((6 : Int) = 5) by decide, show ¬ ((6 : Int) = 7) by decide, if_false, if_true, List.append_nil]
    obtain ⟨y, e, _, hy⟩ := quo_of ht
    have hq : quoted (skip (quo n.f1 ++ [58] ++ tell c ++ x)) = .ok (n.f1.data.toList, 58 :: (tell c ++ x)) := by
      rw [e]
      simp only [List.append_assoc, List.cons_append, List.nil_append]
      rw [skip_self' (by decide)]
      unfold quoted takeB
      rw [skip_self' (by decide)]
      simp only [if_true]
      exact hy _
    have htk : takeB 58 (58 :: (tell c ++ x)) = .ok (tell c ++ x) := by
      unfold takeB
      rw [skip_self' (by decide)]
      simp
    have hv := (ih c (by simp) (hall c (by simp))).1 hc6 d (by have := deeps_mem (t := c) (b := [c]) (by simp); omega) x hx
    unfold member
    rw [hq]
    simp only [if_neg hk, htk, hv]
    obtain ⟨f0, f1, f2, f3⟩ := n
    simp only at h6 hmk
    obtain ⟨rfl, rfl⟩ := hmk
    subst h6
    rfl
end Go.Proofs.YtoefnmhmiphilaaGreatDoor.Tp

namespace Go.Proofs.YtoefnmhmiphilaaGreatDoor.Tp
open Go
theorem v_bound : ∀ (l : List UInt8) (m : Int) (k : Int), l.all digit = true → 0 ≤ m → m < k → 0 ≤ val l m ∧ val l m < k * 10 ^ l.length
  | [], m, k, _, h0, h1 => by simp [val]; exact ⟨h0, h1⟩
  | c :: t, m, k, h, h0, h1 => by
    simp only [List.all_cons, Bool.and_eq_true] at h
    have hd : 48 ≤ c.toNat ∧ c.toNat ≤ 57 := by have := h.1; unfold digit at this; simpa using this
    have ih := v_bound t (10 * m + ((c.toNat : Int) - 48)) (10 * k) h.2 (by omega) (by omega)
    simp only [val, List.length_cons]
    refine ⟨ih.1, ?_⟩
    have e : k * 10 ^ (t.length + 1) = 10 * k * 10 ^ t.length := by rw [Int.pow_succ, Int.mul_comm 10 k, Int.mul_assoc, Int.mul_comm 10]
    rw [e]; exact ih.2
theorem num_bound {s : List UInt8} {n : Int} (h : num s = some n) : -999999 ≤ n ∧ n ≤ 999999 := by
  have key : ∀ d : List UInt8, ¬ (6 < d.length) → d.all digit = true → 0 ≤ val d 0 ∧ val d 0 ≤ 999999 := by
    intro d h2 h3
    have hb := v_bound d 0 1 h3 (by omega) (by omega)
    have hp : (10 : Int) ^ d.length ≤ 1000000 := by
      have hk : ∀ k : Fin 7, (10 : Int) ^ k.val ≤ 1000000 := by decide
      exact hk ⟨_, by omega⟩
    omega
  unfold num at h
  by_cases h45 : s.head? = some 45
  · simp only [if_pos h45] at h
    by_cases hc : s.tail = [] ∨ 6 < s.tail.length ∨ s.tail.all digit = false ∨ s.tail.head? = some 48 ∧ s ≠ [48]
    · rw [if_pos hc] at h; cases h
    · rw [if_neg hc] at h
      simp only [not_or, Bool.not_eq_false] at hc
      have := key _ hc.2.1 hc.2.2.1
      cases h; omega
  · simp only [if_neg h45] at h
    by_cases hc : s = [] ∨ 6 < s.length ∨ s.all digit = false ∨ s.head? = some 48 ∧ s ≠ [48]
    · rw [if_pos hc] at h; cases h
    · rw [if_neg hc] at h
      simp only [not_or, Bool.not_eq_false] at hc
      have := key _ hc.2.1 hc.2.2.1
      cases h; omega
def Chain {σ : Type} (G : σ → Tr → σ → Prop) : σ → List Tr → σ → Prop
  | st, [], st' => st = st'
  | st, t :: b, st' => ∃ s1, G st t s1 ∧ Chain G s1 b st'
theorem row_trees {σ : Type} {e : UInt8} {each : σ → List UInt8 → Except (Int × Nat) (List Nd × List UInt8 × σ)} {G : σ → Tr → σ → Prop} (hE : ∀ st r p r1 st1, each st r = .ok (p, r1, st1) → ∃ t, flat t = p ∧ G st t st1) :
    ∀ (k : Nat) (st : σ) (r : List UInt8) (o : List Nd) (n : Int) (o' : List Nd) (r1 : List UInt8) (n' : Int), row e each k st r o n = .ok (o', r1, n') → ∃ b st', Chain G st b st' ∧ o' = o ++ flats b ∧ n' = n + b.length - 1
  | 0, _, _, _, _, _, _, _, h => by cases h
  | k + 1, st, r, o, n, o', r1, n', h => by
    simp only [row] at h
    cases hx : each st r with
    | error x => rw [hx] at h; cases h
    | ok y =>
      obtain ⟨p, r2, s1⟩ := y
      rw [hx] at h
      simp only at h
      obtain ⟨t, ht, hg⟩ := hE _ _ _ _ _ hx
      split at h
      · cases h
      · split at h
        · split at h
          · obtain ⟨b, st', hc, h1, h2⟩ := row_trees hE k _ _ _ _ _ _ _ h
            exact ⟨t :: b, st', ⟨s1, hg, hc⟩, by rw [h1, flats, ht, List.append_assoc], by rw [h2, List.length_cons]; omega⟩
          · split at h
            · cases h
            · obtain ⟨b, st', hc, h1, h2⟩ := row_trees hE k _ _ _ _ _ _ _ h
              exact ⟨t :: b, st', ⟨s1, hg, hc⟩, by rw [h1, flats, ht, List.append_assoc], by rw [h2, List.length_cons]; omega⟩
        · split at h
          · cases h
            exact ⟨[t], s1, ⟨s1, hg, rfl⟩, by simp [flats, ht], by simp⟩
          · cases h
theorem rows_trees {σ : Type} {e : UInt8} {each : σ → List UInt8 → Except (Int × Nat) (List Nd × List UInt8 × σ)} {G : σ → Tr → σ → Prop} (hE : ∀ st r p r1 st1, each st r = .ok (p, r1, st1) → ∃ t, flat t = p ∧ G st t st1)
    {st : σ} {r : List UInt8} {o : List Nd} {r1 : List UInt8} {n : Int} (h : rows e each st r = .ok (o, r1, n)) : ∃ b st', Chain G st b st' ∧ o = flats b ∧ n = b.length := by
  unfold rows at h
  split at h
  · obtain ⟨b, st', h1, h2, h3⟩ := row_trees hE _ _ _ _ _ _ _ _ h
    exact ⟨b, st', h1, by simpa using h2, by omega⟩
  · split at h
    · cases h; exact ⟨[], st, rfl, rfl, rfl⟩
    · obtain ⟨b, st', h1, h2, h3⟩ := row_trees hE _ _ _ _ _ _ _ _ h
      exact ⟨b, st', h1, by simpa using h2, by omega⟩
def GoodV (d : Nat) (t : Tr) : Prop := okT t = true ∧ t.nd.f0 ≠ 6 ∧ deep t ≤ d
def GoodM (d : Nat) (ks : List (List UInt8)) (t : Tr) (ks1 : List (List UInt8)) : Prop := okT t = true ∧ t.nd.f0 = 6 ∧ deep t ≤ d ∧ t.key ∉ ks ∧ ks1 = ks ++ [t.key]
theorem chain_v {d : Nat} : ∀ {b : List Tr} {s s' : Unit}, Chain (fun _ t _ => GoodV d t) s b s' → okTs b = true ∧ (∀ t ∈ b, t.nd.f0 ≠ 6) ∧ deeps b ≤ d
  | [], _, _, _ => ⟨rfl, by simp, Nat.zero_le _⟩
  | t :: b, _, _, ⟨_, h, hc⟩ => by
    obtain ⟨h1, h2, h3⟩ := chain_v hc
    refine ⟨by simp only [okTs, h.1, h1, Bool.and_self], ?_, by rw [deeps]; have := h.2.2; omega⟩
    intro u hu
    rcases List.mem_cons.1 hu with rfl | hu
    · exact h.2.1
    · exact h2 u hu
theorem chain_m {d : Nat} : ∀ {b : List Tr} {ks ks' : List (List UInt8)}, ks.Nodup → Chain (GoodM d) ks b ks' → okTs b = true ∧ (∀ t ∈ b, t.nd.f0 = 6) ∧ deeps b ≤ d ∧ (ks ++ b.map Tr.key).Nodup
  | [], ks, _, hn, _ => ⟨rfl, by simp, Nat.zero_le _, by simpa using hn⟩
  | t :: b, ks, _, hn, ⟨s1, h, hc⟩ => by
    obtain ⟨g1, g2, g3, g4, rfl⟩ := h
    have hn' : (ks ++ [t.key]).Nodup := by
      rw [List.nodup_append]
      refine ⟨hn, by simp, ?_⟩
      intro a ha c hc e
      simp only [List.mem_singleton] at hc
      subst hc; subst e
      exact g4 ha
    obtain ⟨h1, h2, h3, h4⟩ := chain_m hn' hc
    refine ⟨by simp only [okTs, g1, h1, Bool.and_self], ?_, by rw [deeps]; omega, by simpa using h4⟩
    intro u hu
    rcases List.mem_cons.1 hu with rfl | hu
    · exact g2
    · exact h2 u hu
theorem quoted_out {r key r1 : List UInt8} (h : quoted r = .ok (key, r1)) : key.all okc = true := by
  unfold quoted at h
  split at h
  · cases h
  · exact str_out _ _ _ _ _ (Nat.lt_succ_self _) rfl h
theorem member_tree {d : Nat} (hV : ∀ r o r1, value d r = .ok (o, r1) → ∃ t, flat t = o ∧ GoodV d t) : ∀ ks r p r1 ks1, member (value d) ks r = .ok (p, r1, ks1) → ∃ t, flat t = p ∧ GoodM d ks t ks1 := by
  intro ks r p r1 ks1 h
  unfold member at h
  cases hq : quoted (skip r) with
  | error x => rw [hq] at h; cases h
  | ok y =>
    obtain ⟨key, r2⟩ := y
    rw [hq] at h
    simp only at h
    split at h
    · cases h
    · rename_i hk
      cases ht : takeB 58 r2 with
      | error x => rw [ht] at h; cases h
      | ok r3 =>
        rw [ht] at h
        simp only at h
        cases hv : value d r3 with
        | error x => rw [hv] at h; cases h
        | ok y =>
          obtain ⟨o, r4⟩ := y
          rw [hv] at h
          cases h
          obtain ⟨c, hc, h1, h2, h3⟩ := hV _ _ _ hv
          have hko := quoted_out hq
          refine ⟨.mk ⟨6, ⟨key.toArray⟩, 0, 1⟩ [c], by simp [flat, flats, hc], ?_, rfl, ?_, hk, rfl⟩
          · simp only [okT, okTs, h1, fits, kinds, keysOk, may, mayK, texted]
            simp [h2, hko]
          · simp only [deep, deeps]
            simp; exact h3
theorem leaf_ok {n : Nd} (h : may n = true) (h3 : n.f3 = 0) (d : Nat) (h6 : n.f0 ≠ 6) : GoodV (d + 1) (.mk n []) := by
  refine ⟨?_, h6, ?_⟩
  · simp [okT, okTs, h, h3, fits, kinds, keysOk]
  · simp only [deep, deeps, if_neg h6]; omega
theorem value_tree : ∀ (d : Nat) (r : List UInt8) (o : List Nd) (r1 : List UInt8), value d r = .ok (o, r1) → ∃ t, flat t = o ∧ GoodV d t
  | 0, r, o, r1, h => by
    unfold value at h
    split at h <;> cases h
  | d + 1, r, o, r1, h => by
    cases hs : skip r with
    | nil => unfold value at h; rw [hs] at h; cases h
    | cons b t =>
      rw [v_head d hs] at h
      split at h
      · unfold word at h
        simp only at h
        split at h
        · cases h; exact ⟨.mk (nd 1 0 0) [], rfl, leaf_ok (by decide) rfl d (by decide)⟩
        · split at h
          · cases h; exact ⟨.mk (nd 2 1 0) [], rfl, leaf_ok (by decide) rfl d (by decide)⟩
          · split at h
            · cases h; exact ⟨.mk (nd 2 0 0) [], rfl, leaf_ok (by decide) rfl d (by decide)⟩
            · cases h
      · split at h
        · simp only [number] at h
          split at h
          · rename_i n hn
            cases h
            have hb := num_bound hn
            exact ⟨.mk (nd 3 n 0) [], rfl, leaf_ok (by simp [may, mayK, nd, texted, hb]) rfl d (by simp [nd])⟩
          · cases h
        · split at h
          · cases hst : str t [] with
            | error x => rw [hst] at h; cases h
            | ok y =>
              obtain ⟨s, r2⟩ := y
              rw [hst] at h
              cases h
              have ho := str_out _ _ _ _ _ (Nat.lt_succ_self _) rfl hst
              exact ⟨.mk ⟨4, ⟨s.toArray⟩, 0, 0⟩ [], rfl, leaf_ok (by simp [may, mayK, texted, ho]) rfl d (by simp)⟩
          · split at h
            · cases hr : rows 93 (elem (value d)) () t with
              | error x => rw [hr] at h; cases h
              | ok y =>
                obtain ⟨o1, r2, n⟩ := y
                rw [hr] at h
                cases h
                obtain ⟨b, st', hc, h1, h2⟩ := rows_trees (G := fun _ t _ => GoodV d t) (fun st r p r1 st1 h => by
                  unfold elem at h
                  cases hv : value d r with
                  | error x => rw [hv] at h; cases h
                  | ok y => obtain ⟨p', r'⟩ := y; rw [hv] at h; cases h; exact value_tree d _ _ _ hv) hr
                obtain ⟨g1, g2, g3⟩ := chain_v hc
                refine ⟨.mk (nd 5 0 n) b, by simp [flat, h1], ?_, by simp [Tr.nd, nd], ?_⟩
                · have : b.all (fun t => (t.nd.f0 == 6) == false) = true := List.all_eq_true.2 (fun t ht => by simp [g2 t ht])
                  simp only [okT, okTs, g1, fits, kinds, keysOk, may, mayK, texted, nd, h2]
                  simp
                  exact g2
                · rw [deep, if_neg (by simp [nd])]; omega
            · split at h
              · cases hr : rows 125 (member (value d)) [] t with
                | error x => rw [hr] at h; cases h
                | ok y =>
                  obtain ⟨o1, r2, n⟩ := y
                  rw [hr] at h
                  cases h
                  obtain ⟨b, st', hc, h1, h2⟩ := rows_trees (member_tree (value_tree d)) hr
                  obtain ⟨g1, g2, g3, g4⟩ := chain_m List.nodup_nil hc
                  rw [List.nil_append] at g4
                  refine ⟨.mk (nd 7 0 n) b, by simp [flat, h1], ?_, by simp [Tr.nd, nd], ?_⟩
                  · simp only [okT, okTs, g1, fits, kinds, keysOk, may, mayK, texted, nd, h2]
                    simp [g4]
                    exact g2
                  · rw [deep, if_neg (by simp [nd])]; omega
              · cases h
theorem parse_tree {r : List UInt8} {o : List Nd} {r1 : List UInt8} (h : value 20 r = .ok (o, r1)) (hl : o.length ≤ 2000) : ∃ t, apart o = .ok t ∧ flat t = o := by
  obtain ⟨t, h1, h2, h3, h4⟩ := value_tree 20 _ _ _ h
  exact ⟨t, apart_ok.2 ⟨hl, h1, h2, h3, h4⟩, h1⟩
end Go.Proofs.YtoefnmhmiphilaaGreatDoor.Tp

namespace Go.Proofs.YtoefnmhmiphilaaGreatDoor.Tp
open Go
theorem flats_map : ∀ b : List Tr, flats b = (b.map flat).flatten
  | [] => rfl
  | t :: b => by simp only [flats, List.map_cons, List.flatten_cons, flats_map b]
theorem flats_len : ∀ b : List Tr, (flats b).length = (b.map (fun t => (flat t).length)).sum
  | [] => rfl
  | t :: b => by simp only [flats, List.length_append, List.map_cons, List.sum_cons, flats_len b]
theorem deeps_le : ∀ (b : List Tr) (d : Nat), deeps b ≤ d ↔ ∀ t ∈ b, deep t ≤ d
  | [], d => by simp [deeps]
  | t :: b, d => by simp only [deeps, List.mem_cons, forall_eq_or_imp, ← deeps_le b d]; omega
theorem deeps_perm {a b : List Tr} (h : a.Perm b) : deeps a = deeps b := by
  apply Nat.le_antisymm
  · rw [deeps_le]; intro t ht; exact (deeps_le b _).1 (Nat.le_refl _) t (h.mem_iff.1 ht)
  · rw [deeps_le]; intro t ht; exact (deeps_le a _).1 (Nat.le_refl _) t (h.mem_iff.2 ht)
theorem flats_perm {a b : List Tr} (h : a.Perm b) : (flats a).length = (flats b).length := by
  rw [flats_len, flats_len]
  exact (h.map _).sum_nat
theorem kids_perm (n : Nd) (c : List Tr) : (if n.f0 = 7 then byKey c else c).Perm c := by
  split
  · exact byKey_perm c
  · exact List.Perm.refl _
theorem fits_perm {n : Nd} {a b : List Tr} (h : a.Perm b) : fits n a = fits n b := by
  have h1 : kinds n a = kinds n b := by
    unfold kinds
    rw [Bool.eq_iff_iff, List.all_eq_true, List.all_eq_true]
    exact ⟨fun g t ht => g t (h.mem_iff.2 ht), fun g t ht => g t (h.mem_iff.1 ht)⟩
  have h2 : keysOk n a = keysOk n b := by
    unfold keysOk
    congr 1
    rw [Bool.eq_iff_iff, decide_eq_true_eq, decide_eq_true_eq]
    exact (h.map Tr.key).nodup_iff
  unfold fits; rw [h1, h2]
theorem fits_map (n : Nd) (b : List Tr) : fits n (b.map sortT) = fits n b := by
  have h1 : kinds n (b.map sortT) = kinds n b := by
    unfold kinds
    rw [List.all_map]
    congr 1
    funext t
    simp only [Function.comp, nd_sortT]
  have h2 : (b.map sortT).map Tr.key = b.map Tr.key := by
    rw [List.map_map]
    congr 1
    funext t
    exact key_sortT t
  unfold fits keysOk
  rw [h1, h2]
theorem sort_facts : ∀ t : Tr, okT t = true → okT (sortT t) = true ∧ deep (sortT t) = deep t ∧ (flat (sortT t)).length = (flat t).length ∧ sortT (sortT t) = sortT t := by
  apply Tr.ind
  intro n b ih h
  simp only [okT, Bool.and_eq_true, decide_eq_true_eq] at h
  obtain ⟨⟨⟨h3, hm⟩, hf⟩, hs⟩ := h
  have hall : ∀ u ∈ b, okT u = true := fun u hu => by rw [okTs_all] at hs; exact List.all_eq_true.1 hs u hu
  have hp := kids_perm n (b.map sortT)
  have hdm : deeps (b.map sortT) = deeps b := by
    apply Nat.le_antisymm
    · rw [deeps_le]
      intro t ht
      obtain ⟨u, hu, rfl⟩ := List.mem_map.1 ht
      rw [(ih u hu (hall u hu)).2.1]
      exact deeps_mem hu
    · rw [deeps_le]
      intro t ht
      rw [← (ih t ht (hall t ht)).2.1]
      exact deeps_mem (List.mem_map_of_mem ht)
  have hlm : (flats (b.map sortT)).length = (flats b).length := by
    rw [flats_len, flats_len, List.map_map]
    congr 1
    apply List.map_congr_left
    intro t ht
    exact (ih t ht (hall t ht)).2.2.1
  have hmm : (b.map sortT).map sortT = b.map sortT := by
    rw [List.map_map]
    apply List.map_congr_left
    intro t ht
    exact (ih t ht (hall t ht)).2.2.2
  simp only [sortT, sortTs_map]
  refine ⟨?_, ?_, ?_, ?_⟩
  · simp only [okT, Bool.and_eq_true, decide_eq_true_eq]
    refine ⟨⟨⟨?_, hm⟩, ?_⟩, ?_⟩
    · rw [hp.length_eq, List.length_map]; exact h3
    · rw [fits_perm hp, fits_map]; exact hf
    · rw [okTs_all, List.all_eq_true]
      intro t ht
      obtain ⟨u, hu, rfl⟩ := List.mem_map.1 (hp.mem_iff.1 ht)
      exact (ih u hu (hall u hu)).1
  · simp only [deep]; rw [deeps_perm hp, hdm]
  · simp only [flat, List.length_append]; rw [flats_perm hp, hlm]
  · congr 1
    by_cases h7 : n.f0 = 7
    · simp only [if_pos h7]
      rw [← byKey_map, hmm]
      have hk : ((b.map sortT).map Tr.key).Nodup := by
        rw [← fits_map] at hf
        simp only [fits, keysOk, Bool.and_eq_true] at hf
        have := hf.2
        rw [h7] at this
        simpa using this
      have hk2 : ((byKey (b.map sortT)).map Tr.key).Nodup := ((byKey_perm _).map Tr.key).nodup_iff.2 hk
      exact sorted_unique (byKey_perm _) (byKey_sorted hk2) (byKey_sorted hk)
    · simp only [if_neg h7]; exact hmm
theorem apart_sort {l : List Nd} {t : Tr} (h : apart l = .ok t) : apart (flat (sortT t)) = .ok (sortT t) := by
  obtain ⟨h1, h2, h3, h4, h5⟩ := apart_ok.1 h
  obtain ⟨g1, g2, g3, _⟩ := sort_facts t h3
  exact apart_ok.2 ⟨by rw [g3, h2]; exact h1, rfl, g1, by rw [nd_sortT]; exact h4, by rw [g2]; exact h5⟩
def getT (t : Tr) (key : List UInt8) : Option Tr :=
  if t.nd.f0 = 7 then (t.kids.find? (fun m => m.key == key)).bind (fun m => m.kids.head?) else none
theorem getT_ok {t c : Tr} {key : List UInt8} (ht : okT t = true) (hd : deep t ≤ 20) (hl : (flat t).length ≤ 2000) (h : getT t key = some c) : apart (flat c) = .ok c ∧ (flat c).length ≤ (flat t).length := by
  obtain ⟨n, b⟩ := t
  unfold getT at h
  by_cases h7 : n.f0 = 7
  · rw [if_pos (show (Tr.mk n b).nd.f0 = 7 from h7)] at h
    simp only [Tr.kids] at h
    cases hf : b.find? (fun m => m.key == key) with
    | none => rw [hf] at h; cases h
    | some m =>
      rw [hf] at h
      simp only [Option.bind_some] at h
      have hm := List.mem_of_find?_eq_some hf
      obtain ⟨mn, mb⟩ := m
      simp only [Tr.kids] at h
      have hc : c ∈ mb := List.mem_of_mem_head? h
      simp only [okT, Bool.and_eq_true, decide_eq_true_eq] at ht
      have hmo : okT (.mk mn mb) = true := by have := ht.2; rw [okTs_all] at this; exact List.all_eq_true.1 this _ hm
      have hm6 : mn.f0 = 6 := by
        have := ht.1.2
        simp only [fits, kinds, Bool.and_eq_true] at this
        have := List.all_eq_true.1 this.1 _ hm
        rw [h7] at this
        simpa [Tr.nd] using this
      simp only [okT, Bool.and_eq_true, decide_eq_true_eq] at hmo
      have hco : okT c = true := by have := hmo.2; rw [okTs_all] at this; exact List.all_eq_true.1 this _ hc
      have hc6 : c.nd.f0 ≠ 6 := by
        have := hmo.1.2
        simp only [fits, kinds, Bool.and_eq_true] at this
        have := List.all_eq_true.1 this.1 _ hc
        rw [hm6] at this
        simpa using this
      have hdc : deep c ≤ deep (.mk n b) := by
        have h1 := deeps_mem hc
        have h2 := deeps_mem hm
        rw [deep] at h2 ⊢
        omega
      have hlc : (flat c).length ≤ (flat (.mk n b)).length := by
        have h1 := flats_len_mem hc
        have h2 := flats_len_mem hm
        rw [flat, List.length_append] at h2 ⊢
        omega
      exact ⟨apart_ok.2 ⟨by omega, rfl, hco, hc6, by omega⟩, hlc⟩
  · rw [if_neg (show ¬ (Tr.mk n b).nd.f0 = 7 from h7)] at h; cases h
theorem find_key : ∀ {b c : List Tr}, b.Perm c → (b.map Tr.key).Nodup → ∀ key, b.find? (fun m => m.key == key) = c.find? (fun m => m.key == key) := by
  intro b c h hn key
  have uniq : ∀ {l : List Tr}, (l.map Tr.key).Nodup → ∀ {m : Tr}, m ∈ l → m.key = key → l.find? (fun m => m.key == key) = some m := by
    intro l
    induction l with
    | nil => intro _ m hm; cases hm
    | cons t l ih =>
      intro hn m hm hk
      simp only [List.map_cons, List.nodup_cons] at hn
      rcases List.mem_cons.1 hm with rfl | hm
      · simp [hk]
      · have htk : ¬ t.key = key := fun e => hn.1 (by rw [e, ← hk]; exact List.mem_map_of_mem hm)
        rw [List.find?_cons, show (t.key == key) = false by simpa using htk]
        exact ih hn.2 hm hk
  cases hb : b.find? (fun m => m.key == key) with
  | some m =>
    have h1 := List.mem_of_find?_eq_some hb
    have h2 := List.find?_some hb
    exact (uniq ((h.map Tr.key).nodup_iff.1 hn) (h.mem_iff.1 h1) (by simpa using h2)).symm
  | none =>
    symm
    rw [List.find?_eq_none] at hb ⊢
    exact fun x hx => hb x (h.mem_iff.2 hx)
theorem getT_sort {t : Tr} (ht : okT t = true) (key : List UInt8) : getT (sortT t) key = (getT t key).map sortT := by
  obtain ⟨n, b⟩ := t
  by_cases h7 : n.f0 = 7
  · have e1 : getT (.mk n b) key = (b.find? (fun m => m.key == key)).bind (fun m => m.kids.head?) := by unfold getT; rw [if_pos (show (Tr.mk n b).nd.f0 = 7 from h7)]; rfl
    have e2 : getT (sortT (.mk n b)) key = ((byKey (b.map sortT)).find? (fun m => m.key == key)).bind (fun m => m.kids.head?) := by
      unfold getT
      rw [if_pos (show (sortT (Tr.mk n b)).nd.f0 = 7 by rw [nd_sortT]; exact h7)]
      simp only [sortT, Tr.kids, if_pos h7, sortTs_map]
    have hk : ((b.map sortT).map Tr.key).Nodup := by
      simp only [okT, Bool.and_eq_true] at ht
      have hf := ht.1.2
      rw [← fits_map] at hf
      simp only [fits, keysOk, Bool.and_eq_true] at hf
      have := hf.2
      rw [h7] at this
      simpa using this
    rw [e1, e2, find_key (byKey_perm _) (((byKey_perm _).map Tr.key).nodup_iff.2 hk), List.find?_map]
    have : ((fun m : Tr => m.key == key) ∘ sortT) = (fun m => m.key == key) := by funext m; simp only [Function.comp, key_sortT]
    rw [this]
    cases hf : b.find? (fun m => m.key == key) with
    | none => rfl
    | some m =>
      have hm := List.mem_of_find?_eq_some hf
      obtain ⟨mn, mb⟩ := m
      have hm6 : mn.f0 = 6 := by
        simp only [okT, Bool.and_eq_true] at ht
        have := ht.1.2
        simp only [fits, kinds, Bool.and_eq_true] at this
        have := List.all_eq_true.1 this.1 _ hm
        rw [h7] at this
        simpa [Tr.nd] using this
      simp only [Option.map_some, Option.bind_some, sortT, Tr.kids]
      rw [if_neg (by rw [hm6]; decide), sortTs_map, List.head?_map]
  · have e1 : getT (.mk n b) key = none := by unfold getT; rw [if_neg (show ¬ (Tr.mk n b).nd.f0 = 7 from h7)]
    have e2 : getT (sortT (.mk n b)) key = none := by unfold getT; rw [if_neg (show ¬ (sortT (Tr.mk n b)).nd.f0 = 7 by rw [nd_sortT]; exact h7)]
    rw [e1, e2]; rfl
end Go.Proofs.YtoefnmhmiphilaaGreatDoor.Tp

namespace Go.Proofs.YtoefnmhmiphilaaGreatDoor.Tp
open Go Go.RowKit Go.Maps Go.Proofs.YtoefnmhmiphilaaGreatDoorW.PrintWords
def Ns (W : World) (b off : Nat) (o : List Nd) : Prop := ∀ i, i < o.length * 4 → W.cell? ⟨b, off + i, none⟩ = (encs o)[i]?
theorem Ns.at_ {W : World} {b off : Nat} {o : List Nd} (h : Ns W b off o) (k : Nat) (hk : k < o.length) : W.cell? ⟨b, off + k * 4, none⟩ = some (.int .i64 o[k].f0) ∧ W.cell? ⟨b, off + k * 4 + 1, none⟩ = some (.string o[k].f1) ∧ W.cell? ⟨b, off + k * 4 + 2, none⟩ = some (.int .i64 o[k].f2) ∧ W.cell? ⟨b, off + k * 4 + 3, none⟩ = some (.int .i64 o[k].f3) :=
  ⟨(h (k * 4) (by omega)).trans (encs_get o k hk 0 (by omega)), (h (k * 4 + 1) (by omega)).trans (encs_get o k hk 1 (by omega)), (h (k * 4 + 2) (by omega)).trans (encs_get o k hk 2 (by omega)), (h (k * 4 + 3) (by omega)).trans (encs_get o k hk 3 (by omega))⟩
theorem Ns.lt {W : World} {b off : Nat} {o : List Nd} (h : Ns W b off o) (h0 : 0 < o.length) : b < W.heap.size := by
  have := (h.at_ 0 h0).1
  rcases Nat.lt_or_ge b W.heap.size with h' | h'
  · exact h'
  · simp [World.cell?, Array.getElem?_eq_none h'] at this
theorem Ns.below {W W' : World} {b off : Nat} {o : List Nd} (h : Ns W b off o) {B : Nat} (hb : Below B W W') (hB : W.heap.size ≤ B) : Ns W' b off o := by
  rcases Nat.eq_zero_or_pos o.length with h0 | h0
  · intro i hi; omega
  · intro i hi; rw [← h i hi]; exact hb.cell (p := ⟨b, off + i, none⟩) (Nat.lt_of_lt_of_le (h.lt h0) hB)
def Nv (W : World) (A : Option Addr) (o : List Nd) : Prop := o = [] ∨ ∃ b off, A = some ⟨b, off, none⟩ ∧ Ns W b off o
theorem Nv.below {W W' : World} {A : Option Addr} {o : List Nd} (h : Nv W A o) {B : Nat} (hb : Below B W W') (hB : W.heap.size ≤ B) : Nv W' A o := by
  rcases h with h | ⟨b, off, e, h⟩
  · exact .inl h
  · exact .inr ⟨b, off, e, h.below hb hB⟩
theorem Nv.some {W : World} {A : Option Addr} {o : List Nd} (h : Nv W A o) (h0 : 0 < o.length) : ∃ b off, A = .some ⟨b, off, none⟩ ∧ Ns W b off o := by
  rcases h with rfl | h
  · simp at h0
  · exact h
theorem okc_false {c : UInt8} (h : okc c = false) : ((c.toNat : Int) != 10) = true ∧ (decide ((c.toNat : Int) < 32) = true ∨ decide ((c.toNat : Int) < 32) = false ∧ decide ((126 : Int) < (c.toNat : Int)) = true) := by
  have h1 : ¬ (c = 10 ∨ 32 ≤ c.toNat ∧ c.toNat ≤ 126) := fun e => by rw [← okc_iff] at e; rw [e] at h; cases h
  refine ⟨by rw [bne, show ((c.toNat : Int) == 10) = false from u8_ne (y := 10) (fun e => h1 (.inl e))]; rfl, ?_⟩
  simp; omega
theorem okc_true {c : UInt8} (h : okc c = true) : ((c.toNat : Int) != 10) = false ∨ ((c.toNat : Int) != 10) = true ∧ decide ((c.toNat : Int) < 32) = false ∧ decide ((126 : Int) < (c.toNat : Int)) = false := by
  rw [okc_iff] at h
  by_cases h10 : c = 10
  · left; subst h10; decide
  · right
    have h2 : 32 ≤ c.toNat ∧ c.toNat ≤ 126 := by rcases h with h | h; (· exact absurd h h10); exact h
    exact ⟨by rw [bne, show ((c.toNat : Int) == 10) = false from u8_ne (y := 10) h10]; rfl, by simp; omega, by simp; omega⟩
set_option maxHeartbeats 8000000 in
set_option maxRecDepth 100000 in
theorem rtexted_calls (W : World) (D : ByteArray) (hz : D.size ≤ 4611686018427387904) :
    Calls Tryz.prog 73 #[.string D] W fun e W' => e = .returned (.bool (texted D)) ∧ W' = W := by
  have HZ := Lib.hid hz
  have HL := Lib.hid (show D.data.toList.length = D.size by simp)
  clear hz
  go_enter Tryz.func73, Tryz.ntmps73
  go_wp2_with fail
  go_loopg [3] D.size (fun k v3 W' => ∃ q : Nat, v3 = .int .i64 (q : Int) ∧ Hid (k = D.size - q) ∧ Hid (q ≤ D.size) ∧ Hid ((D.data.toList.take q).all okc = true) ∧ Hid (W' = W))
  case atStart => exact ⟨0, rfl, Lib.hid rfl, Lib.hid (Nat.zero_le _), Lib.hid (by simp), Lib.hid rfl⟩
  case round =>
    obtain ⟨q, rfl, HK, HQ, HD, HW⟩ := hrel
    by_cases hlt : q < D.size
    · have d1 : decide ((q : Int) < (D.size : Int)) = true := by simp; omega
      obtain ⟨c, hc⟩ : ∃ c, D[q]'hlt = c := ⟨_, rfl⟩
      have HDR := Lib.hid (show D.data.toList[q]'(by rw [HL.out]; exact hlt) = c from hc)
      have hbd := HZ.out
      cases hk : okc c with
      | true =>
        have HOK := Lib.hid hk
        have hcs := okc_true hk
        clear hk
        rcases hcs with g1 | ⟨g1, g2, g3⟩
        all_goals
          go_wp2_with fail
          go_roundg (D.size - (q + 1))
          case rel => exact ⟨q + 1, rfl, Lib.hid rfl, Lib.hid hlt, Lib.hid (by
            rw [List.take_succ_eq_append_getElem (by rw [HL.out]; exact hlt), List.all_append, HD.out, HDR.out]
            simp [HOK.out]), HW⟩
          case measure => have := HK.out; omega
      | false =>
        have HT := Lib.hid (show texted D = false by
          unfold texted
          rw [← Bool.not_eq_true, List.all_eq_true]
          intro h
          have := h c (by rw [← HDR.out]; exact List.getElem_mem _)
          rw [this] at hk; cases hk)
        obtain ⟨g1, hcs⟩ := okc_false hk
        clear hk
        rcases hcs with g2 | ⟨g2, g3⟩
        all_goals
          go_wp2_with fail
          go_ret
          exact ⟨by rw [HT.out]; rfl, HW.out⟩
    · have d1 : decide ((q : Int) < (D.size : Int)) = false := by simp; omega
      have HT := Lib.hid (show texted D = true by
        have := HD.out
        rwa [List.take_of_length_le (by rw [HL.out]; omega)] at this)
      go_wp2_with fail
      go_ret
      exact ⟨by rw [HT.out]; rfl, HW.out⟩
abbrev aggN (n : Nd) : Value := .agg #[.int .i64 n.f0, .string n.f1, .int .i64 n.f2, .int .i64 n.f3]
abbrev boxN (n : Nd) : Obj := .cells #[.int .i64 n.f0, .string n.f1, .int .i64 n.f2, .int .i64 n.f3] 32
theorem empty_iff (s : ByteArray) : s.toList.isEmpty = decide (s.data.toList = []) := by
  rw [ByteArray.toList_eq]; cases s.data.toList <;> rfl
end Go.Proofs.YtoefnmhmiphilaaGreatDoor.Tp

namespace Go.Proofs.YtoefnmhmiphilaaGreatDoor.Tp
open Go Go.RowKit Go.Maps Go.Proofs.YtoefnmhmiphilaaGreatDoorW.PrintWords
theorem alone_def (a : Int) (s : ByteArray) (e f : Int) : alone ⟨a, s, e, f⟩ = (decide (0 ≤ f) && (mayK ⟨a, s, e, f⟩ && texted s)) := rfl
set_option maxHeartbeats 8000000 in
set_option maxRecDepth 100000 in
theorem alone_calls (W : World) (n : Nd) (hz : n.f1.size ≤ 4611686018427387904) :
    Calls Tryz.prog 48 #[aggN n] W fun e W' => e = .returned (.bool (alone n)) ∧ Below W.heap.size W W' := by
  obtain ⟨a, s, e, f⟩ := n
  unfold aggN
  simp only
  have HZ := Lib.hid hz
  clear hz
  have CT := Lib.hid (fun W => rtexted_calls W s HZ.out)
  have kb := blk_new W (.cells #[.int .i64 a, .string s, .int .i64 e, .int .i64 f] 32)
  have k0 := (blk_cell kb 0).trans rfl
  have k1 := (blk_cell kb 1).trans rfl
  have k2 := (blk_cell kb 2).trans rfl
  have k3 := (blk_cell kb 3).trans rfl
  clear kb
  by_cases hf : f < 0
  · have d1 : decide (f < 0) = true := decide_eq_true hf
    have HA := Lib.hid (show alone ⟨a, s, e, f⟩ = false by rw [alone_def, decide_eq_false (by omega)]; rfl)
    clear hf
    go_enter Tryz.func48, Tryz.ntmps48
    go_wp2_with (first | (go_at_call 73; (with_reducible refine (CT.out _).mono ?_); rintro e1 W5 ⟨rfl, hw5⟩; have hw6 := hw5.symm; clear hw5; subst hw6))
    go_ret
    exact ⟨by rw [HA.out]; rfl, (Below.refl _ W).alloc (Nat.le_refl _) _⟩
  · have d1 : decide (f < 0) = false := decide_eq_false hf
    cases ht : texted s with
    | false =>
      rw [ht] at CT
      have HA := Lib.hid (show alone ⟨a, s, e, f⟩ = false by rw [alone_def, ht, Bool.and_false, Bool.and_false])
      clear hf ht
      go_enter Tryz.func48, Tryz.ntmps48
      go_wp2_with (first | (go_at_call 73; (with_reducible refine (CT.out _).mono ?_); rintro e1 W5 ⟨rfl, hw5⟩; have hw6 := hw5.symm; clear hw5; subst hw6))
      go_ret
      exact ⟨by rw [HA.out]; rfl, (Below.refl _ W).alloc (Nat.le_refl _) _⟩
    | true =>
      rw [ht] at CT
      have hal : alone ⟨a, s, e, f⟩ = mayK ⟨a, s, e, f⟩ := by rw [alone_def, ht, decide_eq_true (by omega), Bool.and_true, Bool.true_and]
      rw [hal]
      clear hal ht
      have he0 := empty_iff s

      by_cases h1 : a = 1
      · subst h1
        by_cases hs : s.data.toList = []
        · have he : s.toList.isEmpty = true := by rw [he0]; exact decide_eq_true hs
          by_cases h20 : e = 0
          · by_cases h30 : f = 0
            · have t2 : (e == 0) = true := by simp [h20]
              have t3 : (f == 0) = true := by simp [h30]
              have HA := Lib.hid (show mayK ⟨1, s, e, f⟩ = true by simp [mayK, *])
              clear he0
              go_enter Tryz.func48, Tryz.ntmps48
              go_wp2_with (first | (go_at_call 73; (with_reducible refine (CT.out _).mono ?_); rintro e1 W5 ⟨rfl, hw5⟩; have hw6 := hw5.symm; clear hw5; subst hw6))
              go_ret
              exact ⟨by rw [HA.out]; rfl, (Below.refl _ W).alloc (Nat.le_refl _) _⟩
            · have t2 : (e == 0) = true := by simp [h20]
              have t3 : (f == 0) = false := by simp [h30]
              have HA := Lib.hid (show mayK ⟨1, s, e, f⟩ = false by simp [mayK, *])
              clear he0
              go_enter Tryz.func48, Tryz.ntmps48
              go_wp2_with (first | (go_at_call 73; (with_reducible refine (CT.out _).mono ?_); rintro e1 W5 ⟨rfl, hw5⟩; have hw6 := hw5.symm; clear hw5; subst hw6))
              go_ret
              exact ⟨by rw [HA.out]; rfl, (Below.refl _ W).alloc (Nat.le_refl _) _⟩
          · have t2 : (e == 0) = false := by simp [h20]
            have HA := Lib.hid (show mayK ⟨1, s, e, f⟩ = false by simp [mayK, *])
            clear he0
            go_enter Tryz.func48, Tryz.ntmps48
            go_wp2_with (first | (go_at_call 73; (with_reducible refine (CT.out _).mono ?_); rintro e1 W5 ⟨rfl, hw5⟩; have hw6 := hw5.symm; clear hw5; subst hw6))
            go_ret
            exact ⟨by rw [HA.out]; rfl, (Below.refl _ W).alloc (Nat.le_refl _) _⟩
        · have he : s.toList.isEmpty = false := by rw [he0]; exact decide_eq_false hs
          have HA := Lib.hid (show mayK ⟨1, s, e, f⟩ = false by simp [mayK, *])
          clear he0
          go_enter Tryz.func48, Tryz.ntmps48
          go_wp2_with (first | (go_at_call 73; (with_reducible refine (CT.out _).mono ?_); rintro e1 W5 ⟨rfl, hw5⟩; have hw6 := hw5.symm; clear hw5; subst hw6))
          go_ret
          exact ⟨by rw [HA.out]; rfl, (Below.refl _ W).alloc (Nat.le_refl _) _⟩
      · have g1 : (a == 1) = false := by simp [h1]
        by_cases h2 : a = 2
        · subst h2
          by_cases hs : s.data.toList = []
          · have he : s.toList.isEmpty = true := by rw [he0]; exact decide_eq_true hs
            by_cases h20 : e = 0
            · by_cases h30 : f = 0
              · have t2 : (e == 0) = true := by simp [h20]
                have t3 : (f == 0) = true := by simp [h30]
                have HA := Lib.hid (show mayK ⟨2, s, e, f⟩ = true by simp [mayK, *])
                clear he0
                go_enter Tryz.func48, Tryz.ntmps48
                go_wp2_with (first | (go_at_call 73; (with_reducible refine (CT.out _).mono ?_); rintro e1 W5 ⟨rfl, hw5⟩; have hw6 := hw5.symm; clear hw5; subst hw6))
                go_ret
                exact ⟨by rw [HA.out]; rfl, (Below.refl _ W).alloc (Nat.le_refl _) _⟩
              · have t2 : (e == 0) = true := by simp [h20]
                have t3 : (f == 0) = false := by simp [h30]
                have HA := Lib.hid (show mayK ⟨2, s, e, f⟩ = false by simp [mayK, *])
                clear he0
                go_enter Tryz.func48, Tryz.ntmps48
                go_wp2_with (first | (go_at_call 73; (with_reducible refine (CT.out _).mono ?_); rintro e1 W5 ⟨rfl, hw5⟩; have hw6 := hw5.symm; clear hw5; subst hw6))
                go_ret
                exact ⟨by rw [HA.out]; rfl, (Below.refl _ W).alloc (Nat.le_refl _) _⟩
            · have t2 : (e == 0) = false := by simp [h20]
              by_cases h21 : e = 1
              · by_cases h30 : f = 0
                · have t4 : (e == 1) = true := by simp [h21]
                  have t3 : (f == 0) = true := by simp [h30]
                  have HA := Lib.hid (show mayK ⟨2, s, e, f⟩ = true by simp [mayK, *])
                  clear he0
                  go_enter Tryz.func48, Tryz.ntmps48
                  go_wp2_with (first | (go_at_call 73; (with_reducible refine (CT.out _).mono ?_); rintro e1 W5 ⟨rfl, hw5⟩; have hw6 := hw5.symm; clear hw5; subst hw6))
                  go_ret
                  exact ⟨by rw [HA.out]; rfl, (Below.refl _ W).alloc (Nat.le_refl _) _⟩
                · have t4 : (e == 1) = true := by simp [h21]
                  have t3 : (f == 0) = false := by simp [h30]
                  have HA := Lib.hid (show mayK ⟨2, s, e, f⟩ = false by simp [mayK, *])
                  clear he0
                  go_enter Tryz.func48, Tryz.ntmps48
                  go_wp2_with (first | (go_at_call 73; (with_reducible refine (CT.out _).mono ?_); rintro e1 W5 ⟨rfl, hw5⟩; have hw6 := hw5.symm; clear hw5; subst hw6))
                  go_ret
                  exact ⟨by rw [HA.out]; rfl, (Below.refl _ W).alloc (Nat.le_refl _) _⟩
              · have t4 : (e == 1) = false := by simp [h21]
                have HA := Lib.hid (show mayK ⟨2, s, e, f⟩ = false by simp [mayK, *])
                clear he0
                go_enter Tryz.func48, Tryz.ntmps48
                go_wp2_with (first | (go_at_call 73; (with_reducible refine (CT.out _).mono ?_); rintro e1 W5 ⟨rfl, hw5⟩; have hw6 := hw5.symm; clear hw5; subst hw6))
                go_ret
                exact ⟨by rw [HA.out]; rfl, (Below.refl _ W).alloc (Nat.le_refl _) _⟩
          · have he : s.toList.isEmpty = false := by rw [he0]; exact decide_eq_false hs
            have HA := Lib.hid (show mayK ⟨2, s, e, f⟩ = false by simp [mayK, *])
            clear he0
            go_enter Tryz.func48, Tryz.ntmps48
            go_wp2_with (first | (go_at_call 73; (with_reducible refine (CT.out _).mono ?_); rintro e1 W5 ⟨rfl, hw5⟩; have hw6 := hw5.symm; clear hw5; subst hw6))
            go_ret
            exact ⟨by rw [HA.out]; rfl, (Below.refl _ W).alloc (Nat.le_refl _) _⟩
        · have g2 : (a == 2) = false := by simp [h2]
          by_cases h3 : a = 3
          · subst h3
            by_cases hs : s.data.toList = []
            · have he : s.toList.isEmpty = true := by rw [he0]; exact decide_eq_true hs
              by_cases h20 : -999999 ≤ e
              · have t2 : decide (-999999 ≤ e) = true := decide_eq_true h20
                by_cases h21 : e ≤ 999999
                · have t4 : decide (e ≤ 999999) = true := decide_eq_true h21
                  by_cases h30 : f = 0
                  · have t3 : (f == 0) = true := by simp [h30]
                    have HA := Lib.hid (show mayK ⟨3, s, e, f⟩ = true by simp [mayK, *])
                    clear he0
                    go_enter Tryz.func48, Tryz.ntmps48
                    go_wp2_with (first | (go_at_call 73; (with_reducible refine (CT.out _).mono ?_); rintro e1 W5 ⟨rfl, hw5⟩; have hw6 := hw5.symm; clear hw5; subst hw6))
                    go_ret
                    exact ⟨by rw [HA.out]; rfl, (Below.refl _ W).alloc (Nat.le_refl _) _⟩
                  · have t3 : (f == 0) = false := by simp [h30]
                    have HA := Lib.hid (show mayK ⟨3, s, e, f⟩ = false by simp [mayK, *])
                    clear he0
                    go_enter Tryz.func48, Tryz.ntmps48
                    go_wp2_with (first | (go_at_call 73; (with_reducible refine (CT.out _).mono ?_); rintro e1 W5 ⟨rfl, hw5⟩; have hw6 := hw5.symm; clear hw5; subst hw6))
                    go_ret
                    exact ⟨by rw [HA.out]; rfl, (Below.refl _ W).alloc (Nat.le_refl _) _⟩
                · have t4 : decide (e ≤ 999999) = false := decide_eq_false h21
                  have HA := Lib.hid (show mayK ⟨3, s, e, f⟩ = false by simp [mayK, *])
                  clear he0
                  go_enter Tryz.func48, Tryz.ntmps48
                  go_wp2_with (first | (go_at_call 73; (with_reducible refine (CT.out _).mono ?_); rintro e1 W5 ⟨rfl, hw5⟩; have hw6 := hw5.symm; clear hw5; subst hw6))
                  go_ret
                  exact ⟨by rw [HA.out]; rfl, (Below.refl _ W).alloc (Nat.le_refl _) _⟩
              · have t2 : decide (-999999 ≤ e) = false := decide_eq_false h20
                have HA := Lib.hid (show mayK ⟨3, s, e, f⟩ = false by simp [mayK, *])
                clear he0
                go_enter Tryz.func48, Tryz.ntmps48
                go_wp2_with (first | (go_at_call 73; (with_reducible refine (CT.out _).mono ?_); rintro e1 W5 ⟨rfl, hw5⟩; have hw6 := hw5.symm; clear hw5; subst hw6))
                go_ret
                exact ⟨by rw [HA.out]; rfl, (Below.refl _ W).alloc (Nat.le_refl _) _⟩
            · have he : s.toList.isEmpty = false := by rw [he0]; exact decide_eq_false hs
              have HA := Lib.hid (show mayK ⟨3, s, e, f⟩ = false by simp [mayK, *])
              clear he0
              go_enter Tryz.func48, Tryz.ntmps48
              go_wp2_with (first | (go_at_call 73; (with_reducible refine (CT.out _).mono ?_); rintro e1 W5 ⟨rfl, hw5⟩; have hw6 := hw5.symm; clear hw5; subst hw6))
              go_ret
              exact ⟨by rw [HA.out]; rfl, (Below.refl _ W).alloc (Nat.le_refl _) _⟩
          · have g3 : (a == 3) = false := by simp [h3]
            by_cases h4 : a = 4
            · subst h4
              cases he : s.toList.isEmpty with
              | true =>
                by_cases h20 : e = 0
                · by_cases h30 : f = 0
                  · have t2 : (e == 0) = true := by simp [h20]
                    have t3 : (f == 0) = true := by simp [h30]
                    have HA := Lib.hid (show mayK ⟨4, s, e, f⟩ = true by simp [mayK, *])
                    clear he0
                    go_enter Tryz.func48, Tryz.ntmps48
                    go_wp2_with (first | (go_at_call 73; (with_reducible refine (CT.out _).mono ?_); rintro e1 W5 ⟨rfl, hw5⟩; have hw6 := hw5.symm; clear hw5; subst hw6))
                    go_ret
                    exact ⟨by rw [HA.out]; rfl, (Below.refl _ W).alloc (Nat.le_refl _) _⟩
                  · have t2 : (e == 0) = true := by simp [h20]
                    have t3 : (f == 0) = false := by simp [h30]
                    have HA := Lib.hid (show mayK ⟨4, s, e, f⟩ = false by simp [mayK, *])
                    clear he0
                    go_enter Tryz.func48, Tryz.ntmps48
                    go_wp2_with (first | (go_at_call 73; (with_reducible refine (CT.out _).mono ?_); rintro e1 W5 ⟨rfl, hw5⟩; have hw6 := hw5.symm; clear hw5; subst hw6))
                    go_ret
                    exact ⟨by rw [HA.out]; rfl, (Below.refl _ W).alloc (Nat.le_refl _) _⟩
                · have t2 : (e == 0) = false := by simp [h20]
                  have HA := Lib.hid (show mayK ⟨4, s, e, f⟩ = false by simp [mayK, *])
                  clear he0
                  go_enter Tryz.func48, Tryz.ntmps48
                  go_wp2_with (first | (go_at_call 73; (with_reducible refine (CT.out _).mono ?_); rintro e1 W5 ⟨rfl, hw5⟩; have hw6 := hw5.symm; clear hw5; subst hw6))
                  go_ret
                  exact ⟨by rw [HA.out]; rfl, (Below.refl _ W).alloc (Nat.le_refl _) _⟩
              | false =>
                by_cases h20 : e = 0
                · by_cases h30 : f = 0
                  · have t2 : (e == 0) = true := by simp [h20]
                    have t3 : (f == 0) = true := by simp [h30]
                    have HA := Lib.hid (show mayK ⟨4, s, e, f⟩ = true by simp [mayK, *])
                    clear he0
                    go_enter Tryz.func48, Tryz.ntmps48
                    go_wp2_with (first | (go_at_call 73; (with_reducible refine (CT.out _).mono ?_); rintro e1 W5 ⟨rfl, hw5⟩; have hw6 := hw5.symm; clear hw5; subst hw6))
                    go_ret
                    exact ⟨by rw [HA.out]; rfl, (Below.refl _ W).alloc (Nat.le_refl _) _⟩
                  · have t2 : (e == 0) = true := by simp [h20]
                    have t3 : (f == 0) = false := by simp [h30]
                    have HA := Lib.hid (show mayK ⟨4, s, e, f⟩ = false by simp [mayK, *])
                    clear he0
                    go_enter Tryz.func48, Tryz.ntmps48
                    go_wp2_with (first | (go_at_call 73; (with_reducible refine (CT.out _).mono ?_); rintro e1 W5 ⟨rfl, hw5⟩; have hw6 := hw5.symm; clear hw5; subst hw6))
                    go_ret
                    exact ⟨by rw [HA.out]; rfl, (Below.refl _ W).alloc (Nat.le_refl _) _⟩
                · have t2 : (e == 0) = false := by simp [h20]
                  have HA := Lib.hid (show mayK ⟨4, s, e, f⟩ = false by simp [mayK, *])
                  clear he0
                  go_enter Tryz.func48, Tryz.ntmps48
                  go_wp2_with (first | (go_at_call 73; (with_reducible refine (CT.out _).mono ?_); rintro e1 W5 ⟨rfl, hw5⟩; have hw6 := hw5.symm; clear hw5; subst hw6))
                  go_ret
                  exact ⟨by rw [HA.out]; rfl, (Below.refl _ W).alloc (Nat.le_refl _) _⟩
            · have g4 : (a == 4) = false := by simp [h4]
              by_cases h5 : a = 5
              · subst h5
                by_cases hs : s.data.toList = []
                · have he : s.toList.isEmpty = true := by rw [he0]; exact decide_eq_true hs
                  by_cases h20 : e = 0
                  · have t2 : (e == 0) = true := by simp [h20]
                    have HA := Lib.hid (show mayK ⟨5, s, e, f⟩ = true by simp [mayK, *])
                    clear he0
                    go_enter Tryz.func48, Tryz.ntmps48
                    go_wp2_with (first | (go_at_call 73; (with_reducible refine (CT.out _).mono ?_); rintro e1 W5 ⟨rfl, hw5⟩; have hw6 := hw5.symm; clear hw5; subst hw6))
                    go_ret
                    exact ⟨by rw [HA.out]; rfl, (Below.refl _ W).alloc (Nat.le_refl _) _⟩
                  · have t2 : (e == 0) = false := by simp [h20]
                    have HA := Lib.hid (show mayK ⟨5, s, e, f⟩ = false by simp [mayK, *])
                    clear he0
                    go_enter Tryz.func48, Tryz.ntmps48
                    go_wp2_with (first | (go_at_call 73; (with_reducible refine (CT.out _).mono ?_); rintro e1 W5 ⟨rfl, hw5⟩; have hw6 := hw5.symm; clear hw5; subst hw6))
                    go_ret
                    exact ⟨by rw [HA.out]; rfl, (Below.refl _ W).alloc (Nat.le_refl _) _⟩
                · have he : s.toList.isEmpty = false := by rw [he0]; exact decide_eq_false hs
                  have HA := Lib.hid (show mayK ⟨5, s, e, f⟩ = false by simp [mayK, *])
                  clear he0
                  go_enter Tryz.func48, Tryz.ntmps48
                  go_wp2_with (first | (go_at_call 73; (with_reducible refine (CT.out _).mono ?_); rintro e1 W5 ⟨rfl, hw5⟩; have hw6 := hw5.symm; clear hw5; subst hw6))
                  go_ret
                  exact ⟨by rw [HA.out]; rfl, (Below.refl _ W).alloc (Nat.le_refl _) _⟩
              · have g5 : (a == 5) = false := by simp [h5]
                by_cases h6 : a = 6
                · subst h6
                  cases he : s.toList.isEmpty with
                  | true =>
                    by_cases h20 : e = 0
                    · by_cases h30 : f = 1
                      · have t2 : (e == 0) = true := by simp [h20]
                        have t3 : (f == 1) = true := by simp [h30]
                        have HA := Lib.hid (show mayK ⟨6, s, e, f⟩ = true by simp [mayK, *])
                        clear he0
                        go_enter Tryz.func48, Tryz.ntmps48
                        go_wp2_with (first | (go_at_call 73; (with_reducible refine (CT.out _).mono ?_); rintro e1 W5 ⟨rfl, hw5⟩; have hw6 := hw5.symm; clear hw5; subst hw6))
                        go_ret
                        exact ⟨by rw [HA.out]; rfl, (Below.refl _ W).alloc (Nat.le_refl _) _⟩
                      · have t2 : (e == 0) = true := by simp [h20]
                        have t3 : (f == 1) = false := by simp [h30]
                        have HA := Lib.hid (show mayK ⟨6, s, e, f⟩ = false by simp [mayK, *])
                        clear he0
                        go_enter Tryz.func48, Tryz.ntmps48
                        go_wp2_with (first | (go_at_call 73; (with_reducible refine (CT.out _).mono ?_); rintro e1 W5 ⟨rfl, hw5⟩; have hw6 := hw5.symm; clear hw5; subst hw6))
                        go_ret
                        exact ⟨by rw [HA.out]; rfl, (Below.refl _ W).alloc (Nat.le_refl _) _⟩
                    · have t2 : (e == 0) = false := by simp [h20]
                      have HA := Lib.hid (show mayK ⟨6, s, e, f⟩ = false by simp [mayK, *])
                      clear he0
                      go_enter Tryz.func48, Tryz.ntmps48
                      go_wp2_with (first | (go_at_call 73; (with_reducible refine (CT.out _).mono ?_); rintro e1 W5 ⟨rfl, hw5⟩; have hw6 := hw5.symm; clear hw5; subst hw6))
                      go_ret
                      exact ⟨by rw [HA.out]; rfl, (Below.refl _ W).alloc (Nat.le_refl _) _⟩
                  | false =>
                    by_cases h20 : e = 0
                    · by_cases h30 : f = 1
                      · have t2 : (e == 0) = true := by simp [h20]
                        have t3 : (f == 1) = true := by simp [h30]
                        have HA := Lib.hid (show mayK ⟨6, s, e, f⟩ = true by simp [mayK, *])
                        clear he0
                        go_enter Tryz.func48, Tryz.ntmps48
                        go_wp2_with (first | (go_at_call 73; (with_reducible refine (CT.out _).mono ?_); rintro e1 W5 ⟨rfl, hw5⟩; have hw6 := hw5.symm; clear hw5; subst hw6))
                        go_ret
                        exact ⟨by rw [HA.out]; rfl, (Below.refl _ W).alloc (Nat.le_refl _) _⟩
                      · have t2 : (e == 0) = true := by simp [h20]
                        have t3 : (f == 1) = false := by simp [h30]
                        have HA := Lib.hid (show mayK ⟨6, s, e, f⟩ = false by simp [mayK, *])
                        clear he0
                        go_enter Tryz.func48, Tryz.ntmps48
                        go_wp2_with (first | (go_at_call 73; (with_reducible refine (CT.out _).mono ?_); rintro e1 W5 ⟨rfl, hw5⟩; have hw6 := hw5.symm; clear hw5; subst hw6))
                        go_ret
                        exact ⟨by rw [HA.out]; rfl, (Below.refl _ W).alloc (Nat.le_refl _) _⟩
                    · have t2 : (e == 0) = false := by simp [h20]
                      have HA := Lib.hid (show mayK ⟨6, s, e, f⟩ = false by simp [mayK, *])
                      clear he0
                      go_enter Tryz.func48, Tryz.ntmps48
                      go_wp2_with (first | (go_at_call 73; (with_reducible refine (CT.out _).mono ?_); rintro e1 W5 ⟨rfl, hw5⟩; have hw6 := hw5.symm; clear hw5; subst hw6))
                      go_ret
                      exact ⟨by rw [HA.out]; rfl, (Below.refl _ W).alloc (Nat.le_refl _) _⟩
                · have g6 : (a == 6) = false := by simp [h6]
                  by_cases h7 : a = 7
                  · subst h7
                    by_cases hs : s.data.toList = []
                    · have he : s.toList.isEmpty = true := by rw [he0]; exact decide_eq_true hs
                      by_cases h20 : e = 0
                      · have t2 : (e == 0) = true := by simp [h20]
                        have HA := Lib.hid (show mayK ⟨7, s, e, f⟩ = true by simp [mayK, *])
                        clear he0
                        go_enter Tryz.func48, Tryz.ntmps48
                        go_wp2_with (first | (go_at_call 73; (with_reducible refine (CT.out _).mono ?_); rintro e1 W5 ⟨rfl, hw5⟩; have hw6 := hw5.symm; clear hw5; subst hw6))
                        go_ret
                        exact ⟨by rw [HA.out]; rfl, (Below.refl _ W).alloc (Nat.le_refl _) _⟩
                      · have t2 : (e == 0) = false := by simp [h20]
                        have HA := Lib.hid (show mayK ⟨7, s, e, f⟩ = false by simp [mayK, *])
                        clear he0
                        go_enter Tryz.func48, Tryz.ntmps48
                        go_wp2_with (first | (go_at_call 73; (with_reducible refine (CT.out _).mono ?_); rintro e1 W5 ⟨rfl, hw5⟩; have hw6 := hw5.symm; clear hw5; subst hw6))
                        go_ret
                        exact ⟨by rw [HA.out]; rfl, (Below.refl _ W).alloc (Nat.le_refl _) _⟩
                    · have he : s.toList.isEmpty = false := by rw [he0]; exact decide_eq_false hs
                      have HA := Lib.hid (show mayK ⟨7, s, e, f⟩ = false by simp [mayK, *])
                      clear he0
                      go_enter Tryz.func48, Tryz.ntmps48
                      go_wp2_with (first | (go_at_call 73; (with_reducible refine (CT.out _).mono ?_); rintro e1 W5 ⟨rfl, hw5⟩; have hw6 := hw5.symm; clear hw5; subst hw6))
                      go_ret
                      exact ⟨by rw [HA.out]; rfl, (Below.refl _ W).alloc (Nat.le_refl _) _⟩
                  · have g7 : (a == 7) = false := by simp [h7]
                    have HA := Lib.hid (show mayK ⟨a, s, e, f⟩ = false by simp [mayK, *])
                    have n4 : (a != 4) = true := by rw [bne, g4]; rfl
                    have n6 : (a != 6) = true := by rw [bne, g6]; rfl
                    clear h1 h2 h3 h4 h5 h6 h7
                    cases he : s.toList.isEmpty
                    all_goals
                      clear he0
                      go_enter Tryz.func48, Tryz.ntmps48
                      go_wp2_with (first | (go_at_call 73; (with_reducible refine (CT.out _).mono ?_); rintro e1 W5 ⟨rfl, hw5⟩; have hw6 := hw5.symm; clear hw5; subst hw6))
                      go_ret
                      exact ⟨by rw [HA.out]; rfl, (Below.refl _ W).alloc (Nat.le_refl _) _⟩
end Go.Proofs.YtoefnmhmiphilaaGreatDoor.Tp

namespace Go.Proofs.YtoefnmhmiphilaaGreatDoor.Tp
open Go Go.RowKit Go.Maps Go.Proofs.YtoefnmhmiphilaaGreatDoorW.PrintWords
def bgI : Option (List Nd) → Int
  | some r => r.length
  | none => -1
structure Lst (W : World) (A : Option Addr) (n : Nat) (o : List Nd) : Prop where
  len : o.length = n
  nv : Nv W A o
  few : n ≤ 4294967296
  txt : ∀ x ∈ o, x.f1.size ≤ 1048576
theorem Lst.below {W W' : World} {A : Option Addr} {n : Nat} {o : List Nd} (h : Lst W A n o) {B : Nat} (hb : Below B W W') (hB : W.heap.size ≤ B) : Lst W' A n o := ⟨h.len, h.nv.below hb hB, h.few, h.txt⟩
theorem suf_take {o t r : List Nd} {m : Nat} (h : (o.take m).reverse = t.reverse ++ r) (hm : m ≤ o.length) : r = (o.take r.length).reverse ∧ r.length + t.length = m := by
  have h1 := congrArg List.reverse h
  rw [List.reverse_reverse, List.reverse_append, List.reverse_reverse] at h1
  have h2 := congrArg List.length h1
  rw [List.length_take, List.length_append, List.length_reverse] at h2
  have h3 : r.length + t.length = m := by omega
  refine ⟨?_, h3⟩
  have h4 : o.take r.length = r.reverse := by
    have : o.take r.length = (o.take m).take r.length := by rw [List.take_take]; congr 1; omega
    rw [this, h1, List.take_left' (by simp)]
  rw [h4, List.reverse_reverse]
def BC (f : Nat) : Prop := ∀ (W : World) (A : Option Addr) (n cap : Nat) (o : List Nd), Lst W A n o → ∀ i : Nat, i < n → i < f →
  Calls Tryz.prog 29 #[.slice A n cap, .int .i64 (i : Int)] W fun e W' => e = .returned (.int .i64 (bgI (bg f (o.take (i + 1)).reverse))) ∧ Below W.heap.size W W'
theorem take_rev {o : List Nd} {i : Nat} (h : i < o.length) : (o.take (i + 1)).reverse = o[i] :: (o.take i).reverse := by
  rw [List.take_succ_eq_append_getElem h, List.reverse_append]; rfl
set_option maxHeartbeats 8000000 in
set_option maxRecDepth 100000 in
theorem begin_step (f : Nat) (ih : BC f) : BC (f + 1) := by
  intro W A n cap o hL i hi hif
  obtain ⟨b, off, rfl, hns⟩ := hL.nv.some (by rw [hL.len]; omega)
  have hio : i < o.length := by rw [hL.len]; exact hi
  obtain ⟨k0, k1, k2, k3⟩ := hns.at_ i hio
  have htr := take_rev hio
  obtain ⟨x, hx⟩ : ∃ x, o[i] = x := ⟨_, rfl⟩
  rw [hx] at k0 k1 k2 k3 htr
  have HL := Lib.hid hL
  have HX := Lib.hid hx
  have hfew := hL.few
  have hi0 : (i : Int) < (n : Int) := by omega
  have d1 : decide (n ≤ i) = false := by simp; omega
  have d0 : decide ((i : Int) < 0) = false := by simp
  have CA := Lib.hid (fun W => alone_calls W x (Nat.le_trans (hL.txt x (by rw [← hx]; exact List.getElem_mem _)) (by decide)))
  rw [htr]
  cases ha : alone x with
  | false =>
    rw [ha] at CA
    have HF := Lib.hid (show bgI (bg (f + 1) (x :: (o.take i).reverse)) = -1 by rw [bg, if_neg (by rw [ha]; simp)]; rfl)
    clear ha htr hx hns hL ih
    go_enter Tryz.func29, Tryz.ntmps29
    go_wp2_with (first | (go_at_call 48; (with_reducible refine (CA.out _).mono ?_); rintro e1 W1 ⟨rfl, hw1⟩; have B1 := Lib.hid hw1; clear hw1))
    go_ret
    exact ⟨by rw [HF.out]; rfl, B1.out⟩
  | true =>
    rw [ha] at CA
    obtain ⟨K, hK⟩ : ∃ K, x.f3.toNat = K := ⟨_, rfl⟩
    have h3 : 0 ≤ x.f3 := by unfold alone at ha; simp only [Bool.and_eq_true, decide_eq_true_eq] at ha; exact ha.1
    have hKi : x.f3 = (K : Int) := by omega
    have HF := Lib.hid (show bgI (bg (f + 1) (x :: (o.take i).reverse)) = bgI (kidsG (bg f) (x.f0 == 7) K (o.take i).reverse) by rw [bg, if_pos ha, hK])
    have HK3 := Lib.hid hKi
    have IH := Lib.hid ih
    have HIF := Lib.hid (show i ≤ f by omega)
    clear ha htr hx hns hL ih hK h3 hKi hif
    go_enter Tryz.func29, Tryz.ntmps29
    go_wp2_with (first | (go_at_call 48; (with_reducible refine (CA.out _).mono ?_); rintro e1 W1 ⟨rfl, hw1⟩; have B1 := Lib.hid hw1; clear hw1))
    go_loopg [5, 6] K (fun k v5 v6 W' => ∃ q kk : Nat, v5 = .int .i64 (q : Int) ∧ v6 = .int .i64 (kk : Int) ∧ Hid (k = K - kk) ∧ Aside0 (q + kk ≤ i ∧ kk ≤ K) ∧ Hid (bgI (bg (f + 1) (x :: (o.take i).reverse)) = bgI (kidsG (bg f) (x.f0 == 7) (K - kk) (o.take q).reverse)) ∧ Hid (Below W.heap.size W W'))
    case atStart => exact ⟨i, 0, rfl, rfl, Lib.hid rfl, ⟨by omega⟩, Lib.hid (by rw [HF.out]; rfl), B1⟩
    case round =>
      obtain ⟨q, kk, rfl, rfl, HK, HQ, HR, HB⟩ := hrel
      have hLw := HL.out.below HB.out (Nat.le_refl _)
      have hqk := HQ.out
      obtain ⟨b', off', hbe, hns⟩ := hLw.nv.some (by rw [HL.out.len]; omega)
      cases hbe
      have hio : i < o.length := by rw [HL.out.len]; exact hi
      obtain ⟨y0, y1, y2, y3⟩ := hns.at_ i hio
      rw [HX.out] at y0 y1 y2 y3
      rw [HK3.out] at y3
      have HLW := Lib.hid hLw
      have hr := HR.out
      clear hLw k0 k1 k2 k3
      by_cases hk : kk < K
      · have d2 : decide ((kk : Int) < (K : Int)) = true := by simp; omega
        obtain ⟨R, hR⟩ : ∃ R, K - kk = R + 1 := ⟨K - kk - 1, by omega⟩
        rw [hR] at hr
        cases q with
        | zero =>
          have HFF := Lib.hid (show bgI (bg (f + 1) (x :: (o.take i).reverse)) = -1 from hr)
          have d3 : decide (((0 : Nat) : Int) < 1) = true := rfl
          clear hr hR hns
          go_wp2_with fail
          go_quiet (fail)
          go_wp2_with fail
          go_ret
          exact ⟨by rw [HFF.out]; rfl, belN HB.out _⟩
        | succ m =>
          have hmo : m < o.length := by omega
          obtain ⟨z0, z1, z2, z3⟩ := hns.at_ m hmo
          have htr := take_rev hmo
          obtain ⟨y, hy⟩ : ∃ y, o[m] = y := ⟨_, rfl⟩
          rw [hy] at z0 z1 z2 z3 htr
          rw [htr, kidsG] at hr
          have d3 : decide ((m : Int) + 1 < 1) = false := by simp; omega
          have hmn : (m : Int) < (n : Int) := by omega
          cases hb : ((y.f0 == 6) == (x.f0 == 7)) with
          | false =>
            have t1 : (!((y.f0 == 6) == (x.f0 == 7))) = true := by rw [hb]; rfl
            rw [hb, if_neg (by decide)] at hr
            have HFF := Lib.hid (show bgI (bg (f + 1) (x :: (o.take i).reverse)) = -1 from hr)
            clear hr hR hns hy htr hb
            go_wp2_with fail
            go_quiet (fail)
            go_wp2_with fail
            go_ret
            exact ⟨by rw [HFF.out]; rfl, belN HB.out _⟩
          | true =>
            have t1 : (!((y.f0 == 6) == (x.f0 == 7))) = false := by rw [hb]; rfl
            rw [hb, if_pos rfl, ← htr] at hr
            have CB := Lib.hid (fun j => IH.out (wr.drewN j) (some ⟨b, off, none⟩) n cap o (HLW.out.below (belN (Below.refl _ wr) j) (Nat.le_refl _)) m (by omega) (by have := HIF.out; omega))
            cases hbg : bg f (o.take (m + 1)).reverse with
            | none =>
              rw [hbg] at hr CB
              have HFF := Lib.hid (show bgI (bg (f + 1) (x :: (o.take i).reverse)) = -1 from hr)
              rw [show bgI none = -1 from rfl] at CB
              clear hr hR hns hy htr hb hbg
              go_wp2_with fail
              go_quiet (fail)
              go_wp2_with (first | (go_at_call 29; (with_reducible refine (CB.out _).mono ?_); rintro e1 W2 ⟨rfl, hb2⟩; have B2 := Lib.hid (HB.out.trans ((belN (Below.refl _ wr) _).trans hb2 |>.mono HB.out.size)); clear hb2))
              go_ret
              exact ⟨by rw [HFF.out]; rfl, B2.out⟩
            | some r' =>
              rw [hbg] at hr CB
              simp only at hr
              rw [show bgI (some r') = (r'.length : Int) from rfl] at CB
              obtain ⟨t, _, ht⟩ := bg_inv _ _ _ hbg
              obtain ⟨hs1, hs2⟩ := suf_take ht (by omega)
              have hfl : 0 < (flat t).length := List.length_pos_iff.2 (flat_ne t)
              have HS := Lib.hid hs1
              have HQ2 := Lib.hid (show r'.length + (kk + 1) ≤ i by omega)
              have HR2 := Lib.hid (show K - (kk + 1) = R by omega)
              have HRR := Lib.hid hr
              obtain ⟨q2, hq2⟩ : ∃ q2, r'.length = q2 := ⟨_, rfl⟩
              rw [hq2] at CB HS HQ2
              have hq2b : q2 ≤ i := by have := HQ2.out; omega
              clear hr hR hns hy htr hb hbg ht hs1 hs2 hfl hq2
              go_wp2_with fail
              go_quiet (fail)
              go_wp2_with (first | (go_at_call 29; (with_reducible refine (CB.out _).mono ?_); rintro e1 W2 ⟨rfl, hb2⟩; have B2 := Lib.hid (HB.out.trans ((belN (Below.refl _ wr) _).trans hb2 |>.mono HB.out.size)); clear hb2))
              go_roundg (K - (kk + 1))
              case rel => exact ⟨q2, kk + 1, rfl, rfl, Lib.hid rfl, ⟨by have := HQ2.out; omega⟩, Lib.hid (by rw [HR2.out, HRR.out]; rw [← HS.out]), B2⟩
              case measure => have := HK.out; omega
      · have hkK : K - kk = 0 := by omega
        rw [hkK] at hr
        have d2 : decide ((kk : Int) < (K : Int)) = false := by simp; omega
        have HFF := Lib.hid (show bgI (bg (f + 1) (x :: (o.take i).reverse)) = (q : Int) by rw [hr]; simp [kidsG, bgI]; omega)
        clear hr hkK hns
        go_wp2_with fail
        go_ret
        exact ⟨by rw [HFF.out]; rfl, HB.out⟩
theorem begin_all : ∀ f, BC f
  | 0 => fun _ _ _ _ _ _ _ _ h => absurd h (Nat.not_lt_zero _)
  | f + 1 => begin_step f (begin_all f)
end Go.Proofs.YtoefnmhmiphilaaGreatDoor.Tp
