/- The scanner's span at its two predicates; text.Number. -/
import Derived.Test.YtkcfigfhbeohfaaGreatDoorTpo
import Derived.Deep.LoopGhost
import Derived.Lib.Atoi
namespace Go.Proofs.YtkcfigfhbeohfaaGreatDoor.Tp
open Go Go.RowKit Go.Proofs.YtkcfigfhbeohfaaGreatDoorW.PrintWords
section
variable {W : World} {g base : Nat} {s : ByteArray} {p : Nat} {o : List Nd} {c a : Int} {v : Value}
set_option maxHeartbeats 4000000 in
set_option maxRecDepth 100000 in
theorem span_small (h : Sc W g base s p o c a v) (X : Nat → Prop) (hz : s.size ≤ 4611686018427387904) :
    Calls Tryz.prog 41 #[.pointer (some ⟨g, 0, none⟩), .func (.func 19) #[] #[]] W fun r W' => r = .returned (.string ⟨((rest s p).takeWhile small).toArray⟩) ∧ Sc W' g base s (p + ((rest s p).takeWhile small).length) o c a v ∧ Stp X g W v W' v := by
  obtain ⟨c0, c1, c2, c3, c4⟩ := h.reads
  have H := Lib.hid h
  clear h
  go_enter Tryz.func41, Tryz.ntmps41
  go_wp2
  go_loopg [] (s.size - p) (fun k W' => ∃ q : Nat, Hid (Sc W' g base s q o c a v) ∧ Hid (Stp X g W v W' v) ∧ Hid (k = s.size - q) ∧ Hid (∃ w, rest s p = w ++ rest s q ∧ w.all small = true ∧ q = p + w.length))
  case atStart => exact ⟨p, H, Lib.hid (Stp.refl X g W v), Lib.hid rfl, Lib.hid ⟨[], rfl, rfl, rfl⟩⟩
  case round =>
    clear c0 c1 c2 c3 c4
    obtain ⟨q, HS, HT, HK, HW⟩ := hrel
    obtain ⟨c0, c1, c2, c3, c4⟩ := HS.out.reads
    have f1 := HS.out.frz 1
    have hq := HS.out.le
    have hp := H.out.le
    by_cases hlt : q < s.size
    · have d1 : decide ((q : Int) < (s.size : Int)) = true := by simp; omega
      obtain ⟨b, hb⟩ : ∃ b, s[q]'hlt = b := ⟨_, rfl⟩
      have hrq := rest_cons hlt
      rw [hb] at hrq
      have HR := Lib.hid hrq
      clear hrq
      cases hf : small b with
      | true =>
        go_wp2_with fail
        go_quiet ((go_at_call 19; exact Calls.quiet_of_same (small_calls b _)))
        go_wp2
        go_roundg (s.size - (q + 1))
        case rel =>
          refine ⟨q + 1, Lib.hid ((HS.out.drewN _).at_ (q + 1) (by omega)), Lib.hid ((HT.out.drewN _).set _), Lib.hid rfl, Lib.hid ?_⟩
          obtain ⟨w, e1, e2, e3⟩ := HW.out
          rw [HR.out] at e1
          exact ⟨w ++ [b], by rw [e1]; simp, by rw [List.all_append, e2]; simp [hf], by simp; omega⟩
        case measure => have := HK.out; omega
      | false =>
        obtain ⟨w, e1, e2, e3⟩ := HW.out
        have hw := while_follow (w := w) (x := rest s q) e2 (fun y t e => by rw [HR.out] at e; cases e; exact hf)
        rw [← e1] at hw
        have hx : (s.extract p q) = ⟨w.toArray⟩ := by
          apply ByteArray.ext
          apply Array.toList_inj.1
          have e4 : s.data.toList.drop p = w ++ rest s q := e1
          have e5 : q - p = w.length := by omega
          simp [ByteArray.data_extract, e4, e5]
        have HX := Lib.hid hx
        have HW1 := Lib.hid hw.1
        have HE := Lib.hid e3
        have hpq : (p : Int) ≤ (q : Int) := by omega
        clear hw hx e1 e2 e3
        go_wp2_with fail
        go_quiet ((go_at_call 19; exact Calls.quiet_of_same (small_calls b _)))
        go_wp2
        go_quiet (fail)
        go_wp2
        go_ret
        refine ⟨by rw [HW1.out]; first | rfl | (rw [← HX.out]; rfl), ?_, (HT.out.drewN _).drewN _⟩
        rw [HW1.out, ← HE.out]
        exact (HS.out.drewN _).drewN _
    · obtain rfl : q = s.size := by omega
      have d1 : decide ((s.size : Int) < (s.size : Int)) = false := by simp
      obtain ⟨w, e1, e2, e3⟩ := HW.out
      have hn : rest s s.size = [] := (rest_nil (Nat.le_refl _)).2 rfl
      have hw := while_follow (w := w) (x := rest s s.size) e2 (fun y t e => by rw [hn] at e; cases e)
      rw [← e1] at hw
      have hx : (s.extract p s.size) = ⟨w.toArray⟩ := by
        apply ByteArray.ext
        apply Array.toList_inj.1
        have e4 : s.data.toList.drop p = w ++ rest s s.size := e1
        have e5 : s.size - p = w.length := by omega
        simp [ByteArray.data_extract, e4, e5]
      have HX := Lib.hid hx
      have HW1 := Lib.hid hw.1
      have HE := Lib.hid e3
      have hpq : (p : Int) ≤ (s.size : Int) := by omega
      clear hw hx e1 e2 e3 hn
      go_wp2_with fail
      go_quiet (fail)
      go_wp2
      go_wp2_with fail
      go_quiet (fail)
      go_wp2
      go_ret
      refine ⟨by rw [HW1.out]; first | rfl | (rw [← HX.out]; rfl), ?_, (HT.out.drewN _).drewN _⟩
      rw [HW1.out, ← HE.out]
      exact (HS.out.drewN _).drewN _
set_option maxHeartbeats 4000000 in
set_option maxRecDepth 100000 in
theorem span_digit (h : Sc W g base s p o c a v) (X : Nat → Prop) (hz : s.size ≤ 4611686018427387904) :
    Calls Tryz.prog 41 #[.pointer (some ⟨g, 0, none⟩), .func (.func 21) #[] #[]] W fun r W' => r = .returned (.string ⟨((rest s p).takeWhile digit).toArray⟩) ∧ Sc W' g base s (p + ((rest s p).takeWhile digit).length) o c a v ∧ Stp X g W v W' v := by
  obtain ⟨c0, c1, c2, c3, c4⟩ := h.reads
  have H := Lib.hid h
  clear h
  go_enter Tryz.func41, Tryz.ntmps41
  go_wp2
  go_loopg [] (s.size - p) (fun k W' => ∃ q : Nat, Hid (Sc W' g base s q o c a v) ∧ Hid (Stp X g W v W' v) ∧ Hid (k = s.size - q) ∧ Hid (∃ w, rest s p = w ++ rest s q ∧ w.all digit = true ∧ q = p + w.length))
  case atStart => exact ⟨p, H, Lib.hid (Stp.refl X g W v), Lib.hid rfl, Lib.hid ⟨[], rfl, rfl, rfl⟩⟩
  case round =>
    clear c0 c1 c2 c3 c4
    obtain ⟨q, HS, HT, HK, HW⟩ := hrel
    obtain ⟨c0, c1, c2, c3, c4⟩ := HS.out.reads
    have f1 := HS.out.frz 1
    have hq := HS.out.le
    have hp := H.out.le
    by_cases hlt : q < s.size
    · have d1 : decide ((q : Int) < (s.size : Int)) = true := by simp; omega
      obtain ⟨b, hb⟩ : ∃ b, s[q]'hlt = b := ⟨_, rfl⟩
      have hrq := rest_cons hlt
      rw [hb] at hrq
      have HR := Lib.hid hrq
      clear hrq
      cases hf : digit b with
      | true =>
        go_wp2_with fail
        go_quiet ((go_at_call 21; exact Calls.quiet_of_same (digit_calls b _)))
        go_wp2
        go_roundg (s.size - (q + 1))
        case rel =>
          refine ⟨q + 1, Lib.hid ((HS.out.drewN _).at_ (q + 1) (by omega)), Lib.hid ((HT.out.drewN _).set _), Lib.hid rfl, Lib.hid ?_⟩
          obtain ⟨w, e1, e2, e3⟩ := HW.out
          rw [HR.out] at e1
          exact ⟨w ++ [b], by rw [e1]; simp, by rw [List.all_append, e2]; simp [hf], by simp; omega⟩
        case measure => have := HK.out; omega
      | false =>
        obtain ⟨w, e1, e2, e3⟩ := HW.out
        have hw := while_follow (w := w) (x := rest s q) e2 (fun y t e => by rw [HR.out] at e; cases e; exact hf)
        rw [← e1] at hw
        have hx : (s.extract p q) = ⟨w.toArray⟩ := by
          apply ByteArray.ext
          apply Array.toList_inj.1
          have e4 : s.data.toList.drop p = w ++ rest s q := e1
          have e5 : q - p = w.length := by omega
          simp [ByteArray.data_extract, e4, e5]
        have HX := Lib.hid hx
        have HW1 := Lib.hid hw.1
        have HE := Lib.hid e3
        have hpq : (p : Int) ≤ (q : Int) := by omega
        clear hw hx e1 e2 e3
        go_wp2_with fail
        go_quiet ((go_at_call 21; exact Calls.quiet_of_same (digit_calls b _)))
        go_wp2
        go_quiet (fail)
        go_wp2
        go_ret
        refine ⟨by rw [HW1.out]; first | rfl | (rw [← HX.out]; rfl), ?_, (HT.out.drewN _).drewN _⟩
        rw [HW1.out, ← HE.out]
        exact (HS.out.drewN _).drewN _
    · obtain rfl : q = s.size := by omega
      have d1 : decide ((s.size : Int) < (s.size : Int)) = false := by simp
      obtain ⟨w, e1, e2, e3⟩ := HW.out
      have hn : rest s s.size = [] := (rest_nil (Nat.le_refl _)).2 rfl
      have hw := while_follow (w := w) (x := rest s s.size) e2 (fun y t e => by rw [hn] at e; cases e)
      rw [← e1] at hw
      have hx : (s.extract p s.size) = ⟨w.toArray⟩ := by
        apply ByteArray.ext
        apply Array.toList_inj.1
        have e4 : s.data.toList.drop p = w ++ rest s s.size := e1
        have e5 : s.size - p = w.length := by omega
        simp [ByteArray.data_extract, e4, e5]
      have HX := Lib.hid hx
      have HW1 := Lib.hid hw.1
      have HE := Lib.hid e3
      have hpq : (p : Int) ≤ (s.size : Int) := by omega
      clear hw hx e1 e2 e3 hn
      go_wp2_with fail
      go_quiet (fail)
      go_wp2
      go_wp2_with fail
      go_quiet (fail)
      go_wp2
      go_ret
      refine ⟨by rw [HW1.out]; first | rfl | (rw [← HX.out]; rfl), ?_, (HT.out.drewN _).drewN _⟩
      rw [HW1.out, ← HE.out]
      exact (HS.out.drewN _).drewN _
end
theorem drop_nil (p : UInt8 → Bool) : ∀ l : List UInt8, l.dropWhile p = [] ↔ l.all p = true
  | [] => by simp
  | c :: l => by
    cases h : p c with
    | true => rw [List.dropWhile_cons_of_pos h, List.all_cons, h, Bool.true_and]; exact drop_nil p l
    | false => rw [List.dropWhile_cons_of_neg (by rw [h]; simp), List.all_cons, h]; simp
theorem trimS_nil (l cs : List UInt8) : Lib.trimS l cs = [] ↔ l.all (fun x => cs.contains x) = true := by
  unfold Lib.trimS Lib.trimLeftS Lib.trimRightS
  have e : l = (l.reverse.dropWhile (cs.contains ·)).reverse ++ (l.reverse.takeWhile (cs.contains ·)).reverse := by
    rw [← List.reverse_append, List.takeWhile_append_dropWhile, List.reverse_reverse]
  have ht : (l.reverse.takeWhile (cs.contains ·)).all (cs.contains ·) = true := List.all_takeWhile
  rw [drop_nil]
  conv => rhs; rw [e, List.all_append, List.all_reverse (l := List.takeWhile _ _), ht, Bool.and_true]
theorem digits_eq (x : UInt8) : List.contains [48, 49, 50, 51, 52, 53, 54, 55, 56, 57] x = digit x := by
  have : ∀ y : Fin 256, List.contains [48, 49, 50, 51, 52, 53, 54, 55, 56, 57] (UInt8.ofNat y.val) = (decide (48 ≤ y.val) && decide (y.val ≤ 57)) := by decide +kernel
  have h := this ⟨x.toNat, UInt8.toNat_lt x⟩
  simpa [digit] using h
theorem trimD_calls (t : ByteArray) (W : World) (ht : t.size ≤ 4611686018427387904) : Calls Tryz.prog 39 #[.string t, .string ⟨#[48, 49, 50, 51, 52, 53, 54, 55, 56, 57]⟩] W fun e W' => ∃ T : ByteArray, e = .returned (.string T) ∧ T.toList.isEmpty = t.data.toList.all digit ∧ Below W.heap.size W W' := by
  have h := Any.strings_Trim_laid Tryz.lays160 (by kernel_rfl) t ⟨#[48, 49, 50, 51, 52, 53, 54, 55, 56, 57]⟩ W (by omega) (by decide) (ascii_of_all (by decide))
  refine h.mono ?_
  rintro e W' ⟨rfl, hb⟩
  refine ⟨_, rfl, ?_, hb⟩
  have e1 := trimS_nil t.data.toList [48, 49, 50, 51, 52, 53, 54, 55, 56, 57]
  have e2 : (fun x => List.contains [48, 49, 50, 51, 52, 53, 54, 55, 56, 57] x) = digit := funext digits_eq
  rw [e2] at e1
  have e3 : (⟨(Lib.trimS t.data.toList [48, 49, 50, 51, 52, 53, 54, 55, 56, 57]).toArray⟩ : ByteArray).toList = Lib.trimS t.data.toList [48, 49, 50, 51, 52, 53, 54, 55, 56, 57] := by simp
  show (⟨(Lib.trimS t.data.toList [48, 49, 50, 51, 52, 53, 54, 55, 56, 57]).toArray⟩ : ByteArray).toList.isEmpty = _
  rw [e3]
  cases h2 : t.data.toList.all digit with
  | true => rw [e1.2 h2]; rfl
  | false =>
    cases h3 : Lib.trimS t.data.toList [48, 49, 50, 51, 52, 53, 54, 55, 56, 57] with
    | nil => rw [e1.1 h3] at h2; cases h2
    | cons => rfl
theorem dec_val : ∀ (l : List UInt8) (m : Nat), l.all digit = true → ∃ n : Nat, Lib.decFrom m l = some n ∧ val l m = n
  | [], m, _ => ⟨m, rfl, rfl⟩
  | c :: t, m, h => by
    simp only [List.all_cons, Bool.and_eq_true] at h
    have hd : 48 ≤ c.toNat ∧ c.toNat ≤ 57 := by have := h.1; unfold digit at this; simpa using this
    obtain ⟨n, h1, h2⟩ := dec_val t (m * 10 + (c.toNat - 48)) h.2
    refine ⟨n, ?_, ?_⟩
    · simp only [Lib.decFrom, Lib.digitVal, if_pos hd]; exact h1
    · simp only [val]
      rw [← h2]
      congr 1
      omega
theorem val_bound : ∀ (l : List UInt8) (m : Int) (k : Int), l.all digit = true → 0 ≤ m → m < k → 0 ≤ val l m ∧ val l m < k * 10 ^ l.length
  | [], m, k, _, h0, h1 => by simp [val]; exact ⟨h0, h1⟩
  | c :: t, m, k, h, h0, h1 => by
    simp only [List.all_cons, Bool.and_eq_true] at h
    have hd : 48 ≤ c.toNat ∧ c.toNat ≤ 57 := by have := h.1; unfold digit at this; simpa using this
    have ih := val_bound t (10 * m + ((c.toNat : Int) - 48)) (10 * k) h.2 (by omega) (by omega)
    simp only [val, List.length_cons]
    refine ⟨ih.1, ?_⟩
    have e : k * 10 ^ (t.length + 1) = 10 * k * 10 ^ t.length := by rw [Int.pow_succ, Int.mul_comm 10 k, Int.mul_assoc, Int.mul_comm 10]
    rw [e]; exact ih.2
/-- A text without its sign. -/
def unsigned (s : List UInt8) : List UInt8 := if s.head? = some 45 then s.tail else s
theorem num_def (s : List UInt8) : num s = if unsigned s = [] ∨ 6 < (unsigned s).length ∨ (unsigned s).all digit = false ∨ (unsigned s).head? = some 48 ∧ s ≠ [48] then none else some (if s.head? = some 45 then - val (unsigned s) 0 else val (unsigned s) 0) := rfl
theorem atoi_num {s : List UInt8} {n : Int} (h : num s = some n) : Lib.atoi s = some n ∧ s.length ≤ 7 ∧ -999999 ≤ n ∧ n ≤ 999999 := by
  rw [num_def] at h
  split at h
  · cases h
  · rename_i hh
    simp only [not_or, Bool.not_eq_false] at hh
    obtain ⟨h1, h2, h3, _⟩ := hh
    have hb := val_bound (unsigned s) 0 1 h3 (by omega) (by omega)
    have hp : (10 : Int) ^ (unsigned s).length ≤ 1000000 := by
      have : (unsigned s).length ≤ 6 := by omega
      have hk : ∀ k : Fin 7, (10 : Int) ^ k.val ≤ 1000000 := by decide
      exact hk ⟨_, by omega⟩
    obtain ⟨m, hm1, hm2⟩ := dec_val (unsigned s) 0 h3
    have hdn : Lib.decNat (unsigned s) = some m := by
      unfold Lib.decNat
      cases hu : unsigned s with
      | nil => exact absurd hu h1
      | cons c t => rw [hu] at hm1; exact hm1
    have hm2' : val (unsigned s) 0 = (m : Int) := hm2
    cases s with
    | nil => exact absurd rfl h1
    | cons c t =>
      by_cases hc : c = 45
      · subst hc
        have hu : unsigned (45 :: t) = t := by simp [unsigned]
        rw [hu] at h1 h2 h3 hdn hm2' hp hb h
        simp only [List.head?_cons, if_true, Option.some.injEq] at h
        refine ⟨?_, by simp only [List.length_cons]; omega, by omega, by omega⟩
        unfold Lib.atoi
        dsimp only
        rw [if_pos (by decide), hdn, ← h, hm2']
        rfl
      · have hu : unsigned (c :: t) = c :: t := by simp [unsigned, hc]
        rw [hu] at h1 h2 h3 hdn hm2' hp hb h
        simp only [List.head?_cons, Option.some.injEq, if_neg hc] at h
        have hcd : digit c = true := by simp only [List.all_cons, Bool.and_eq_true] at h3; exact h3.1
        have hc43 : ¬ c = 43 := by intro e; subst e; revert hcd; decide
        refine ⟨?_, by omega, by omega, by omega⟩
        unfold Lib.atoi
        dsimp only
        rw [if_neg (by simpa using hc), if_neg (by simpa using hc43), hdn, ← h, hm2']
        rfl

theorem prefix_eq (s : List UInt8) : Lib.trimPrefix s [45] = unsigned s := by
  unfold Lib.trimPrefix unsigned
  cases s with
  | nil => rfl
  | cons c t =>
    by_cases h : c = 45
    · subst h; simp [Lib.hasPrefix]
    · have h2 : ¬ (45 : UInt8) = c := fun e => h e.symm
      simp [Lib.hasPrefix, h, h2]
set_option maxHeartbeats 4000000 in
set_option maxRecDepth 100000 in
theorem number_none (s : ByteArray) (W : World) (hz : s.size ≤ 4611686018427387904) (h : num s.data.toList = none) :
    Calls Tryz.prog 16 #[.string s] W fun e W' => e = .returned (.tuple #[.int .i64 0, .bool false]) ∧ Below W.heap.size W W' := by
  have CP := fun W => Tryz.strings_TrimPrefix s ⟨#[45]⟩ W
  obtain ⟨D, hD⟩ : ∃ D : ByteArray, (⟨(Lib.trimPrefix s.data.toList [45]).toArray⟩ : ByteArray) = D := ⟨_, rfl⟩
  have hDl : D.data.toList = unsigned s.data.toList := by rw [← hD, ← prefix_eq]
  have hDt : D.toList = unsigned s.data.toList := (ByteArray.toList_eq D).trans hDl
  have hDz : D.size = (unsigned s.data.toList).length := by rw [← hDl]; rfl
  have CP' : ∀ W, Calls Tryz.prog 38 #[.string s, .string ⟨#[45]⟩] W fun e W' => e = .returned (.string D) ∧ W' = W := by rw [← hD]; exact CP
  have hle : (unsigned s.data.toList).length ≤ s.size := by
    unfold unsigned
    have : s.data.toList.length = s.size := rfl
    split
    · rw [List.length_tail]; omega
    · omega
  have CPH := Lib.hid CP'
  have CT := Lib.hid (fun W => trimD_calls D W (by omega))
  clear CP CP' hD
  rw [num_def] at h
  rw [hDl] at CT
  have hs2 : s.toList = s.data.toList := ByteArray.toList_eq s
  obtain ⟨d, hd⟩ : ∃ d, unsigned s.data.toList = d := ⟨_, rfl⟩
  rw [hd] at CT hDt hDz h hDl
  cases d with
  | nil =>
    have he : D.toList.isEmpty = true := by rw [hDt]; rfl
    clear hDt hDz h hDl CT hs2
    go_enter Tryz.func16, Tryz.ntmps16
    go_wp2_with (go_at_call 38; refine (CPH.out _).mono ?_; rintro e w' ⟨rfl, rfl⟩)
    go_ret2
    exact ⟨rfl, Below.refl _ _⟩
  | cons c t =>
    have he : D.toList.isEmpty = false := by rw [hDt]; rfl
    rw [List.length_cons] at hDz
    have h0 : 0 < D.size := by omega
    have hb0 : D[0]'h0 = c := by
      have : D.data.toList[0]? = some c := by rw [hDl]; rfl
      have h3 : D.data.toList[0]? = some (D[0]'h0) := by rw [List.getElem?_eq_getElem (by rw [Array.length_toList]; exact h0)]; rfl
      rw [h3] at this
      exact Option.some.inj this
    by_cases h6 : 6 < t.length + 1
    · have d6 : decide ((6 : Int) < (t.length : Int) + 1) = true := by simp; omega
      clear hDt h hDl CT hs2
      go_enter Tryz.func16, Tryz.ntmps16
      go_wp2_with (go_at_call 38; refine (CPH.out _).mono ?_; rintro e w' ⟨rfl, rfl⟩)
      go_ret2
      exact ⟨rfl, Below.refl _ _⟩
    · have d6 : decide ((6 : Int) < (t.length : Int) + 1) = false := by simp; omega
      cases ha : (c :: t).all digit with
      | false =>
        rw [ha] at CT
        clear hDt h hDl hs2
        go_enter Tryz.func16, Tryz.ntmps16
        go_wp2_with (first | (go_at_call 38; refine (CPH.out _).mono ?_; rintro e w' ⟨rfl, rfl⟩) | (go_at_call 39; refine (CT.out _).mono ?_; rintro e w' ⟨T, rfl, hT, hb⟩))
        go_ret2
        exact ⟨rfl, hb⟩
      | true =>
        rw [ha] at CT
        have hh : c = 48 ∧ s.data.toList ≠ [48] := by
          split at h
          · rename_i hx
            rcases hx with hx | hx | hx | hx
            · cases hx
            · rw [List.length_cons] at hx; omega
            · rw [ha] at hx; cases hx
            · simpa using hx
          · cases h
        obtain ⟨rfl, hs48⟩ := hh
        have hs3 : (s.toList == [48]) = false := by rw [hs2]; simpa using hs48
        clear hDt h hDl hs2
        go_enter Tryz.func16, Tryz.ntmps16
        go_wp2_with (first | (go_at_call 38; refine (CPH.out _).mono ?_; rintro e w' ⟨rfl, rfl⟩) | (go_at_call 39; refine (CT.out _).mono ?_; rintro e w' ⟨T, rfl, hT, hb⟩))
        go_ret2
        exact ⟨rfl, hb⟩
set_option maxHeartbeats 4000000 in
set_option maxRecDepth 100000 in
theorem number_some (s : ByteArray) (n : Int) (W : World) (hz : s.size ≤ 4611686018427387904) (h : num s.data.toList = some n) :
    Calls Tryz.prog 16 #[.string s] W fun e W' => e = .returned (.tuple #[.int .i64 n, .bool true]) ∧ Below W.heap.size W W' := by
  have hat := atoi_num h
  have CA := Lib.hid (fun W => Tryz.strconv_Atoi s n (by have : s.data.toList.length = s.size := rfl; omega) hat.1 W)
  clear hat
  have CP := fun W => Tryz.strings_TrimPrefix s ⟨#[45]⟩ W
  obtain ⟨D, hD⟩ : ∃ D : ByteArray, (⟨(Lib.trimPrefix s.data.toList [45]).toArray⟩ : ByteArray) = D := ⟨_, rfl⟩
  have hDl : D.data.toList = unsigned s.data.toList := by rw [← hD, ← prefix_eq]
  have hDt : D.toList = unsigned s.data.toList := (ByteArray.toList_eq D).trans hDl
  have hDz : D.size = (unsigned s.data.toList).length := by rw [← hDl]; rfl
  have CP' : ∀ W, Calls Tryz.prog 38 #[.string s, .string ⟨#[45]⟩] W fun e W' => e = .returned (.string D) ∧ W' = W := by rw [← hD]; exact CP
  have hle : (unsigned s.data.toList).length ≤ s.size := by
    unfold unsigned
    have : s.data.toList.length = s.size := rfl
    split
    · rw [List.length_tail]; omega
    · omega
  have CPH := Lib.hid CP'
  have CT := Lib.hid (fun W => trimD_calls D W (by omega))
  clear CP CP' hD
  rw [num_def] at h
  rw [hDl] at CT
  have hs2 : s.toList = s.data.toList := ByteArray.toList_eq s
  split at h
  · cases h
  · rename_i hh
    simp only [not_or, Bool.not_eq_false] at hh
    obtain ⟨h1, h2, h3, h4⟩ := hh
    clear h
    rw [h3] at CT
    obtain ⟨d, hd⟩ : ∃ d, unsigned s.data.toList = d := ⟨_, rfl⟩
    rw [hd] at hDt hDz hDl h1 h2 h4
    cases d with
    | nil => exact absurd rfl h1
    | cons c t =>
      have he : D.toList.isEmpty = false := by rw [hDt]; rfl
      rw [List.length_cons] at hDz h2
      have h0 : 0 < D.size := by omega
      have hb0 : D[0]'h0 = c := by
        have : D.data.toList[0]? = some c := by rw [hDl]; rfl
        have h3 : D.data.toList[0]? = some (D[0]'h0) := by rw [List.getElem?_eq_getElem (by rw [Array.length_toList]; exact h0)]; rfl
        rw [h3] at this
        exact Option.some.inj this
      have d6 : decide ((6 : Int) < (t.length : Int) + 1) = false := by simp; omega
      by_cases hc : c = 48
      · subst hc
        have hs3 : (s.toList == [48]) = true := by rw [hs2]; simpa using h4
        clear hDt hDl h1 h4 h3 hd hs2
        go_enter Tryz.func16, Tryz.ntmps16
        go_wp2_with (first | (go_at_call 38; refine (CPH.out _).mono ?_; rintro e w' ⟨rfl, rfl⟩) | (go_at_call 39; refine (CT.out _).mono ?_; rintro e w' ⟨T, rfl, hT, hb⟩) | (go_at_call 40; refine (CA.out _).mono ?_; rintro e w2 ⟨rfl, t2, rfl⟩))
        go_ret2
        exact ⟨rfl, hb.trans ((Lib.bytesWorld_below _ _ _).mono hb.size)⟩
      · have hc2 : ((c.toNat : Int) == 48) = false := u8_ne (y := 48) hc
        clear hDt hDl h1 h4 h3 hd hs2
        go_enter Tryz.func16, Tryz.ntmps16
        go_wp2_with (first | (go_at_call 38; refine (CPH.out _).mono ?_; rintro e w' ⟨rfl, rfl⟩) | (go_at_call 39; refine (CT.out _).mono ?_; rintro e w' ⟨T, rfl, hT, hb⟩) | (go_at_call 40; refine (CA.out _).mono ?_; rintro e w2 ⟨rfl, t2, rfl⟩))
        go_ret2
        exact ⟨rfl, hb.trans ((Lib.bytesWorld_below _ _ _).mono hb.size)⟩
end Go.Proofs.YtkcfigfhbeohfaaGreatDoor.Tp
