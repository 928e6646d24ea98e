/- The scanner's small methods: stop, odd, put; small, digit. -/
import Derived.Test.YtkcfigfhbeohfaaGreatDoorTpm
import Derived.Maps.AppendAt
namespace Go.Proofs.YtkcfigfhbeohfaaGreatDoor.Tp
open Go Go.RowKit Go.Proofs.YtkcfigfhbeohfaaGreatDoorW.PrintWords

/-- What is left of a text from a place on. -/
def rest (s : ByteArray) (p : Nat) : List UInt8 := s.data.toList.drop p
theorem rest_len (s : ByteArray) (p : Nat) : (rest s p).length = s.size - p := by unfold rest; rw [List.length_drop]; rfl
theorem rest_nil {s : ByteArray} {p : Nat} (h : p ≤ s.size) : rest s p = [] ↔ p = s.size := by
  constructor
  · intro e; have := rest_len s p; rw [e] at this; simp at this; omega
  · intro e; apply List.eq_nil_of_length_eq_zero; rw [rest_len]; omega
theorem rest_cons {s : ByteArray} {p : Nat} (h : p < s.size) : rest s p = s[p] :: rest s (p + 1) := by
  unfold rest
  rw [List.drop_eq_getElem_cons (by rw [Array.length_toList]; exact h)]
  rfl
theorem rest_app {s : ByteArray} {p : Nat} {c x : List UInt8} (h : rest s p = c ++ x) : rest s (p + c.length) = x := by
  unfold rest at h ⊢
  rw [← List.drop_drop, h, List.drop_left]
theorem rest_lt {s : ByteArray} {p : Nat} {b : UInt8} {t : List UInt8} (h : rest s p = b :: t) : p < s.size := by
  have := rest_len s p
  rw [h, List.length_cons] at this
  omega
theorem rest_get {s : ByteArray} {p : Nat} {b : UInt8} {t : List UInt8} (h : rest s p = b :: t) (hp : p < s.size) : s[p] = b ∧ rest s (p + 1) = t := by
  rw [rest_cons hp] at h
  cases h
  exact ⟨rfl, rfl⟩

set_option maxHeartbeats 2000000 in
theorem small_calls (b : UInt8) (W : World) : Calls Tryz.prog 19 #[.int .u8 (b.toNat : Int)] W fun e W' => e = .returned (.bool (small b)) ∧ W' = W := by
  have hb : (b.toNat : Int) ≤ 255 := by have := UInt8.toNat_lt b; omega
  unfold small
  by_cases h1 : 97 ≤ b.toNat
  · by_cases h2 : b.toNat ≤ 122
    · have e1 : (97 : Int) ≤ (b.toNat : Int) := by omega
      have e2 : (b.toNat : Int) ≤ 122 := by omega
      rw [decide_eq_true h1, decide_eq_true h2]
      clear h1 h2
      go_enter Tryz.func19, Tryz.ntmps19
      go_wp2
      go_ret
      exact ⟨rfl, rfl⟩
    · have e1 : (97 : Int) ≤ (b.toNat : Int) := by omega
      have e2 : decide ((b.toNat : Int) ≤ 122) = false := by simp; omega
      rw [decide_eq_true h1, decide_eq_false h2]
      clear h1 h2
      go_enter Tryz.func19, Tryz.ntmps19
      go_wp2
      go_ret
      exact ⟨rfl, rfl⟩
  · have e1 : decide ((97 : Int) ≤ (b.toNat : Int)) = false := by simp; omega
    rw [decide_eq_false h1]
    clear h1
    go_enter Tryz.func19, Tryz.ntmps19
    go_wp2
    go_ret
    exact ⟨rfl, rfl⟩
set_option maxHeartbeats 2000000 in
theorem digit_calls (b : UInt8) (W : World) : Calls Tryz.prog 21 #[.int .u8 (b.toNat : Int)] W fun e W' => e = .returned (.bool (digit b)) ∧ W' = W := by
  have hb : (b.toNat : Int) ≤ 255 := by have := UInt8.toNat_lt b; omega
  unfold digit
  by_cases h1 : 48 ≤ b.toNat
  · by_cases h2 : b.toNat ≤ 57
    · have e1 : (48 : Int) ≤ (b.toNat : Int) := by omega
      have e2 : (b.toNat : Int) ≤ 57 := by omega
      rw [decide_eq_true h1, decide_eq_true h2]
      clear h1 h2
      go_enter Tryz.func21, Tryz.ntmps21
      go_wp2
      go_ret
      exact ⟨rfl, rfl⟩
    · have e1 : (48 : Int) ≤ (b.toNat : Int) := by omega
      have e2 : decide ((b.toNat : Int) ≤ 57) = false := by simp; omega
      rw [decide_eq_true h1, decide_eq_false h2]
      clear h1 h2
      go_enter Tryz.func21, Tryz.ntmps21
      go_wp2
      go_ret
      exact ⟨rfl, rfl⟩
  · have e1 : decide ((48 : Int) ≤ (b.toNat : Int)) = false := by simp; omega
    rw [decide_eq_false h1]
    clear h1
    go_enter Tryz.func21, Tryz.ntmps21
    go_wp2
    go_ret
    exact ⟨rfl, rfl⟩

section
variable {W : World} {g base : Nat} {s : ByteArray} {p : Nat} {o : List Nd} {c a : Int} {v : Value}
set_option maxHeartbeats 2000000 in
theorem stop_calls (h : Sc W g base s p o c a v) (X : Nat → Prop) (e q : Int) :
    Calls Tryz.prog 18 #[.pointer (some ⟨g, 0, none⟩), .int .i64 e, .int .i64 q] W fun r W' => r = .returned (.bool false) ∧ Sc W' g base s p o e q v ∧ Stp X g W v W' v := by
  obtain ⟨c0, c1, c2, c3, c4⟩ := h.reads
  have f3 := h.frz 3
  have f4 := h.frz 4
  have H := Lib.hid h
  clear h
  have hu := Tryz.underlying26
  go_enter Tryz.func18, Tryz.ntmps18
  go_wp2
  go_ret
  exact ⟨rfl, H.out.fail e q, ((Stp.refl X g W v).set _).set _⟩
set_option maxHeartbeats 2000000 in
theorem odd_calls (h : Sc W g base s p o c a v) (X : Nat → Prop) :
    Calls Tryz.prog 10 #[.pointer (some ⟨g, 0, none⟩)] W fun r W' => r = .returned (.bool false) ∧ Sc W' g base s p o (odd (rest s p)).1 ((s.size : Int) - (odd (rest s p)).2) v ∧ Stp X g W v W' v := by
  obtain ⟨c0, c1, c2, c3, c4⟩ := h.reads
  have hp := h.le
  have hl := rest_len s p
  have hn := rest_nil hp
  have H := Lib.hid h
  clear h
  by_cases hlt : p < s.size
  · have e0 : odd (rest s p) = (10, s.size - p) := by unfold odd; rw [if_neg (by rw [hn]; omega), hl]
    have e1 : ((s.size : Int) - ((s.size - p : Nat) : Int)) = (p : Int) := by omega
    rw [e0]
    simp only
    rw [e1]
    have d1 : decide ((s.size : Int) ≤ (p : Int)) = false := by simp; omega
    clear hl hn e0 e1
    go_enter Tryz.func10, Tryz.ntmps10
    go_wp2
    go_quiet (fail)
    go_wp2_with (first | (go_at_call 18; refine (stop_calls (H.out.drewN _) X _ _).mono ?_; rintro r W' ⟨rfl, hS, hT⟩))
    go_ret
    exact ⟨rfl, hS, ((Stp.refl X g W v).drewN _).trans hT⟩
  · have e0 : odd (rest s p) = (11, 0) := by unfold odd; rw [if_pos (hn.2 (by omega))]
    rw [e0]
    simp only [Int.natCast_zero, Int.sub_zero]
    have d1 : (s.size : Int) ≤ (p : Int) := by omega
    clear hl hn e0
    go_enter Tryz.func10, Tryz.ntmps10
    go_wp2
    go_quiet (fail)
    go_wp2_with (first | (go_at_call 18; refine (stop_calls (H.out.drewN _) X _ _).mono ?_; rintro r W' ⟨rfl, hS, hT⟩))
    go_ret
    exact ⟨rfl, hS, ((Stp.refl X g W v).drewN _).trans hT⟩
theorem own_form {w : World} {base e size n : Nat} {v : Value} {xs : List Value} (h : w.ownsRow base e size v (n + 1) xs) : ∃ g cap, v = .slice (some ⟨g, 0, none⟩) (n + 1) cap := by
  rcases h.2 with ⟨_, h1⟩ | ⟨g, cap, cur, h1, _⟩
  · omega
  · exact ⟨g, cap, h1⟩
theorem info_node : (Tryz.prog.info? 45).map (fun i => (i.zero, i.size, i.bytes)) = some (some (.agg #[.int .i64 0, .string ⟨#[]⟩, .int .i64 0, .int .i64 0]), 4, 40) := by kernel_rfl
set_option maxRecDepth 100000 in
set_option maxHeartbeats 2000000 in
theorem put_calls (h : Sc W g base s p o c a v) (X : Nat → Prop) (k : Int) (t : ByteArray) (n d : Int) (hl : o.length ≤ 4294967296) :
    Calls Tryz.prog 24 #[.pointer (some ⟨g, 0, none⟩), .int .i64 k, .string t, .int .i64 n, .int .i64 d] W fun r W' => ∃ v', r = .returned (.bool true) ∧ Sc W' g base s p (o ++ [⟨k, t, n, d⟩]) c a v' ∧ Stp X g W v W' v' := by
  obtain ⟨c0, c1, c2, c3, c4⟩ := h.reads
  have hg := blk_lt h.blk
  have hb : base ≤ W.heap.size := Nat.le_trans h.ge (Nat.le_of_lt hg)
  have H := Lib.hid h
  have HL := Lib.hid hl
  clear h hl
  have hu := Tryz.underlying45
  go_enter Tryz.func24, Tryz.ntmps24
  go_wp2_with (first | (at_builtin; refine print_append_cells (w0 := W) base rfl (.tmp 15) (.tmp 21) 23 45 (.agg #[.int .i64 0, .string ⟨#[]⟩, .int .i64 0, .int .i64 0]) 4 40 rfl Tryz.underlying23 info_node rfl (by decide) (by decide) v o.length (encs o) (cellsN ⟨k, t, n, d⟩) rfl rfl rfl ?h1 H.out.out (Below.refl _ _) hb ?hl ?_; (case h1 => intro u hu; simp [cellsN] at hu; rcases hu with rfl | rfl | rfl | rfl <;> rfl); (case hl => have := HL.out; omega); intro v1 w1 ho hbel hgr hat; obtain ⟨gg, cap, rfl⟩ := own_form ho; have HO := Lib.hid ho; have HG := Lib.hid hgr; have HA := Lib.hid hat; have hblk := Lib.hid (blk_grown H.out.blk hgr H.out.far); have c2' : w1.cell? ⟨g, 2, none⟩ = some v := (blk_cell hblk.out 2).trans rfl; have f2' := blk_frozen hblk.out 2; clear ho hgr hat hbel))
  go_ret
  have hfar : some g ≠ (Value.slice (some ⟨gg, 0, none⟩) (o.length + 1) cap).ownBlock := by
    rcases HA.out with h1 | ⟨b, h1, h2⟩
    · rw [h1]; exact H.out.far
    · rw [h1]; intro e; simp at e; omega
  refine ⟨_, rfl, ⟨blk_put hblk.out 2 _ rfl, ?_, H.out.le, H.out.ge⟩, ?_⟩
  · rw [encs_snoc, List.length_append]
    exact own_setCell HO.out hfar _
  · refine Stp.set ⟨⟨HG.out.os, HG.out.tape, HG.out.output, HG.out.size, fun i hi hn => HG.out.block i hi (fun e => hn (.inr (.inl e)))⟩, fun i hi => ?_⟩ _
    rcases HA.out with h1 | ⟨b, h1, h2⟩
    · exact .inl (h1 ▸ hi)
    · rw [h1] at hi; cases hi; exact .inr h2
end
end Go.Proofs.YtkcfigfhbeohfaaGreatDoor.Tp
