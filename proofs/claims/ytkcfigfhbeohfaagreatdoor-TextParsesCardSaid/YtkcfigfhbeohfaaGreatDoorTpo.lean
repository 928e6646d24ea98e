/- The scanner's methods next, take, span, word, number; text.Number. -/
import Derived.Test.YtkcfigfhbeohfaaGreatDoorTpb
import Derived.Test.YtkcfigfhbeohfaaGreatDoorTpn
import Derived.Test.YtkcfigfhbeohfaaGreatDoorShelf
import Derived.Shelf.Strings.SlTrimAscii
import Derived.StillTailTactics
import Derived.Deep.RegionHeld3
import Derived.Sort.CutIn
namespace Go.Proofs.YtkcfigfhbeohfaaGreatDoor.Tp
open Go Go.RowKit Go.Proofs.YtkcfigfhbeohfaaGreatDoorW.PrintWords
section
variable {W : World} {g base : Nat} {s : ByteArray} {p : Nat} {o : List Nd} {c a : Int} {v : Value}
theorem rest_suffix {s : ByteArray} {p : Nat} {c x : List UInt8} (hp : p ≤ s.size) (e : rest s p = c ++ x) : rest s (s.size - x.length) = x ∧ s.size - x.length = p + c.length := by
  have h1 := congrArg List.length e
  rw [rest_len, List.length_append] at h1
  have h2 : s.size - x.length = p + c.length := by omega
  exact ⟨by rw [h2]; exact rest_app e, h2⟩
theorem rest_skip {s : ByteArray} {p : Nat} (hp : p ≤ s.size) : rest s (s.size - (skip (rest s p)).length) = skip (rest s p) := by
  obtain ⟨c, e, _⟩ := skip_self (rest s p)
  exact (rest_suffix hp e).1
/-- What stands here; 0: nothing. -/
def top : List UInt8 → Int
  | [] => 0
  | b :: _ => (b.toNat : Int)
theorem blanks_eq (x : UInt8) : List.contains [32, 10, 9] x = blank x := by
  show (x == 32 || (x == 10 || (x == 9 || false))) = _
  simp [blank, Bool.or_assoc]
theorem trimLeft_calls (t : ByteArray) (W : World) : Calls Tryz.prog 29 #[.string t, .string ⟨#[32, 10, 9]⟩] W fun e W' => e = .returned (.string ⟨(skip t.data.toList).toArray⟩) ∧ Below W.heap.size W W' := by
  have h := Any.strings_TrimLeft_laid Tryz.lays161 (by kernel_rfl) t ⟨#[32, 10, 9]⟩ W (by decide) (ascii_of_all (by decide))
  have e : Lib.trimLeftS t.data.toList (⟨#[32, 10, 9]⟩ : ByteArray).data.toList = skip t.data.toList := by
    unfold Lib.trimLeftS skip
    congr 1
    funext x
    exact blanks_eq x
  rw [e] at h
  exact h
set_option maxHeartbeats 2000000 in
set_option maxRecDepth 100000 in
theorem next_calls (h : Sc W g base s p o c a v) (X : Nat → Prop) (hz : s.size ≤ 4611686018427387904) :
    Calls Tryz.prog 9 #[.pointer (some ⟨g, 0, none⟩)] W fun r W' => r = .returned (.int .u8 (top (skip (rest s p)))) ∧ Sc W' g base s (s.size - (skip (rest s p)).length) o c a v ∧ Stp X g W v W' v := by
  obtain ⟨c0, c1, c2, c3, c4⟩ := h.reads
  have hp := h.le
  have H := Lib.hid h
  clear h
  have hx : (s.extract p s.size).data.toList = rest s p := by unfold rest; simp [ByteArray.data_extract]; rw [List.take_of_length_le (by rw [List.length_drop]; exact Nat.le_refl _)]
  have CT := Lib.hid (fun W => trimLeft_calls (s.extract p s.size) W)
  rw [hx] at CT
  have hlen : (skip (rest s p)).length ≤ s.size := by
    obtain ⟨c, e, _⟩ := skip_self (rest s p)
    have h1 := congrArg List.length e
    rw [List.length_append, rest_len] at h1
    omega
  clear hx
  obtain ⟨t, ht⟩ : ∃ t, skip (rest s p) = t := ⟨_, rfl⟩
  rw [ht] at CT hlen
  rw [ht]
  clear ht
  obtain ⟨T, hT⟩ : ∃ T : ByteArray, (⟨t.toArray⟩ : ByteArray) = T := ⟨_, rfl⟩
  have hTs : T.size = t.length := by rw [← hT]; rfl
  have hTl : T.toList = t := by rw [← hT]; simp
  rw [hT] at CT
  obtain ⟨q, hq0⟩ : ∃ q, s.size - t.length = q := ⟨_, rfl⟩
  rw [hq0]
  have hq : (s.size : Int) - (t.length : Int) = (q : Int) := by omega
  have HQ := Lib.hid hq0
  clear hq0
  cases t with
  | nil =>
    have he : T.toList.isEmpty = true := by rw [hTl]; rfl
    clear hTl hT
    go_enter Tryz.func9, Tryz.ntmps9
    go_wp2
    go_still_tail 9, (by kernel_rfl)
    change wpList _ _ _ _ _ W.drew
    go_wp2_with (go_at_call 29; refine (CT.out _).mono ?_; rintro e W1 ⟨rfl, hb⟩; have S1 := Lib.hid (H.out.drew.below hb); have T1 := Lib.hid hb; obtain ⟨d0, d1, d2, d3, d4⟩ := S1.out.reads; have f1 := S1.out.frz 1; clear hb)
    go_ret
    obtain rfl : s.size = q := HQ.out
    exact ⟨rfl, S1.out.at_ _ (Nat.le_refl _), ((((Stp.refl X g W v).drew).trans ⟨Kp.of_below T1.out, fun _ h => .inl h⟩).set _)⟩
  | cons b t =>
    have he : T.toList.isEmpty = false := by rw [hTl]; rfl
    have h0 : 0 < T.size := by rw [hTs]; simp
    have hb0 : T[0]'h0 = b := by subst hT; rfl
    rw [List.length_cons] at hTs hq
    have hq' : (s.size : Int) - ((t.length : Int) + 1) = (q : Int) := by omega
    clear hq
    have hlen' : t.length + 1 ≤ s.size := hlen
    clear hTl hT
    go_enter Tryz.func9, Tryz.ntmps9
    go_wp2
    go_still_tail 9, (by kernel_rfl)
    change wpList _ _ _ _ _ W.drew
    go_wp2_with (go_at_call 29; refine (CT.out _).mono ?_; rintro e W1 ⟨rfl, hb⟩; have S1 := Lib.hid (H.out.drew.below hb); have T1 := Lib.hid hb; obtain ⟨d0, d1, d2, d3, d4⟩ := S1.out.reads; have f1 := S1.out.frz 1; clear hb)
    go_ret
    exact ⟨rfl, S1.out.at_ _ (by have := HQ.out; omega), ((((Stp.refl X g W v).drew).trans ⟨Kp.of_below T1.out, fun _ h => .inl h⟩).set _)⟩

theorem u8_ne {x y : UInt8} (h : x ≠ y) : ((x.toNat : Int) == (y.toNat : Int)) = false := by
  have : x.toNat ≠ y.toNat := fun e => h (UInt8.toNat_inj.1 e)
  simp; omega
set_option maxHeartbeats 2000000 in
set_option maxRecDepth 100000 in
theorem take_ok (h : Sc W g base s p o c a v) (X : Nat → Prop) (hz : s.size ≤ 4611686018427387904) (b : UInt8) (t : List UInt8) (ht : takeB b (rest s p) = .ok t) :
    Calls Tryz.prog 42 #[.pointer (some ⟨g, 0, none⟩), .int .u8 (b.toNat : Int)] W fun r W' => r = .returned (.bool true) ∧ Sc W' g base s (s.size - t.length) o c a v ∧ Stp X g W v W' v := by
  have hp := h.le
  have hs : skip (rest s p) = b :: t := by
    unfold takeB at ht
    cases hs : skip (rest s p) with
    | nil => rw [hs] at ht; cases ht
    | cons x u =>
      rw [hs] at ht
      simp only at ht
      split at ht
      · rename_i e; cases ht; rw [e]
      · cases ht
  have CN := Lib.hid (next_calls h X hz)
  rw [hs, show top (b :: t) = (b.toNat : Int) from rfl] at CN
  have hl : s.size - (b :: t).length + 1 = s.size - t.length := by
    have := rest_len s p
    obtain ⟨x, e, _⟩ := skip_self (rest s p)
    rw [hs] at e
    have h1 := congrArg List.length e
    rw [List.length_append, List.length_cons] at h1
    rw [List.length_cons]
    omega
  have hle : s.size - t.length ≤ s.size := by omega
  obtain ⟨q, hq⟩ : ∃ q, s.size - (b :: t).length = q := ⟨_, rfl⟩
  rw [hq] at CN hl
  rw [← hl] at hle ⊢
  clear h ht hs hl hq hp
  go_enter Tryz.func42, Tryz.ntmps42
  go_wp2_with (go_at_call 9; refine CN.out.mono ?_; rintro e W1 ⟨rfl, hS, hT⟩; have S1 := Lib.hid hS; obtain ⟨d0, d1, d2, d3, d4⟩ := hS.reads; have f1 := hS.frz 1; clear hS)
  go_ret
  exact ⟨rfl, S1.out.at_ _ hle, hT.set _⟩
set_option maxHeartbeats 2000000 in
set_option maxRecDepth 100000 in
theorem take_err (h : Sc W g base s p o c a v) (X : Nat → Prop) (hz : s.size ≤ 4611686018427387904) (b : UInt8) (hb : b ≠ 0) (x : Int × Nat) (ht : takeB b (rest s p) = .error x) :
    Calls Tryz.prog 42 #[.pointer (some ⟨g, 0, none⟩), .int .u8 (b.toNat : Int)] W fun r W' => r = .returned (.bool false) ∧ (∃ q, Sc W' g base s q o x.1 ((s.size : Int) - x.2) v) ∧ Stp X g W v W' v := by
  have hp := h.le
  have CN := Lib.hid (next_calls h X hz)
  have hr := rest_skip hp
  have hd : (top (skip (rest s p)) == (b.toNat : Int)) = false ∧ odd (skip (rest s p)) = x := by
    unfold takeB at ht
    cases hs : skip (rest s p) with
    | nil =>
      rw [hs] at ht
      cases ht
      exact ⟨u8_ne (x := 0) (Ne.symm hb), rfl⟩
    | cons y u =>
      rw [hs] at ht
      simp only at ht
      split at ht
      · cases ht
      · rename_i e
        cases ht
        exact ⟨u8_ne e, by simp [odd]⟩
  obtain ⟨hd, ho⟩ := hd
  have hd' : (top (skip (rest s p)) != (b.toNat : Int)) = true := by rw [bne, hd]; rfl
  have HO := Lib.hid ho
  have HR := Lib.hid hr
  obtain ⟨q, hq⟩ : ∃ q, s.size - (skip (rest s p)).length = q := ⟨_, rfl⟩
  rw [hq] at CN HR
  obtain ⟨N, hN⟩ : ∃ N, top (skip (rest s p)) = N := ⟨_, rfl⟩
  rw [hN] at CN hd hd'
  clear h ht hr hp ho hq hN
  go_enter Tryz.func42, Tryz.ntmps42
  go_wp2_with (first | (go_at_call 9; refine CN.out.mono ?_; rintro e W1 ⟨rfl, hS, hT⟩; have S1 := Lib.hid hS; clear hS) | (go_at_call 10; refine (odd_calls S1.out X).mono ?_; rintro e W2 ⟨rfl, hS2, hT2⟩; have S2 := Lib.hid hS2; clear hS2))
  go_ret
  have h2 := S2.out
  rw [HR.out, HO.out] at h2
  exact ⟨rfl, ⟨q, h2⟩, hT.trans hT2⟩
end
end Go.Proofs.YtkcfigfhbeohfaaGreatDoor.Tp
