/- The reader's put and skip. -/
import Derived.Test.YtkcfigfhbeohfaaGreatDoorTrb
namespace Go.Proofs.YtkcfigfhbeohfaaGreatDoor.Tp
open Go Go.RowKit Go.Maps Go.Proofs.YtkcfigfhbeohfaaGreatDoorW.PrintWords
section
variable {W : World} {g base : Nat} {s : ByteArray} {p : Nat} {o : List Nd} {c a : Int} {v : Value}
set_option maxRecDepth 100000 in
set_option maxHeartbeats 2000000 in
theorem rput_calls (h : Rd W g base s p o c a v) (X : Nat → Prop) (k : Int) (t : ByteArray) (n d : Int) (hl : o.length ≤ 4294967296) :
    Calls Tryz.prog 33 #[.pointer (some ⟨g, 0, none⟩), .int .i64 k, .string t, .int .i64 n, .int .i64 d] W fun r W' => ∃ v', r = .returned (.tuple #[]) ∧ Rd W' g base s p (o ++ [⟨k, t, n, d⟩]) c a v' ∧ Stp X g W v W' v' := by
  obtain ⟨c0, c1, c2, c3, c4⟩ := h.reads
  have hg := blk_lt h.blk
  have hb : base ≤ W.heap.size := Nat.le_trans h.ge (Nat.le_of_lt hg)
  have H := Lib.hid h
  have HL := Lib.hid hl
  clear h hl
  have hu := Tryz.underlying45
  go_enter Tryz.func33, Tryz.ntmps33
  go_wp2_with (first | (at_builtin; refine print_append_cells (w0 := W) base rfl (.tmp 14) (.tmp 20) 23 45 (.agg #[.int .i64 0, .string ⟨#[]⟩, .int .i64 0, .int .i64 0]) 4 40 rfl Tryz.underlying23 info_node rfl (by decide) (by decide) v o.length (encs o) (cellsN ⟨k, t, n, d⟩) rfl rfl rfl ?h1 H.out.out (Below.refl _ _) hb ?hl ?_; (case h1 => intro u hu; simp [cellsN] at hu; rcases hu with rfl | rfl | rfl | rfl <;> rfl); (case hl => have := HL.out; omega); intro v1 w1 ho hbel hgr hat; obtain ⟨gg, cap, rfl⟩ := own_form ho; have HO := Lib.hid ho; have HG := Lib.hid hgr; have HA := Lib.hid hat; have hblk := Lib.hid (blk_grown H.out.blk hgr H.out.far); have c2' : w1.cell? ⟨g, 2, none⟩ = some v := (blk_cell hblk.out 2).trans rfl; have f2' := blk_frozen hblk.out 2; clear ho hgr hat hbel))
  go_end0
  have hfar : some g ≠ (Value.slice (some ⟨gg, 0, none⟩) (o.length + 1) cap).ownBlock := by
    rcases HA.out with h1 | ⟨b, h1, h2⟩
    · rw [h1]; exact H.out.far
    · rw [h1]; intro e; simp at e; omega
  refine ⟨_, rfl, ⟨blk_put hblk.out 2 _ rfl, ?_, H.out.le, H.out.ge⟩, ?_⟩
  · rw [encs_snoc, List.length_append]
    exact own_setCell HO.out hfar _
  · refine Stp.set ⟨⟨HG.out.os, HG.out.tape, HG.out.output, HG.out.size, fun i hi hn => HG.out.block i hi (fun e => hn (.inr (.inl e)))⟩, fun i hi => ?_⟩ _
    rcases HA.out with h1 | ⟨b, h1, h2⟩
    · exact .inl (h1 ▸ hi)
    · rw [h1] at hi; cases hi; exact .inr h2
/-- Where the blanks behind p end. -/
def adv (s : ByteArray) (p : Nat) : Nat := if p ≤ s.size then s.size - (skip (rest s p)).length else p
theorem adv_blank {q : Nat} {x : UInt8} (hq : q < s.size) (hr : rest s q = x :: rest s (q + 1)) (hb : blank x = true) : adv s (q + 1) = adv s q := by
  unfold adv
  rw [if_pos (by omega), if_pos (by omega), hr]
  congr 2
  simp [skip, hb]
theorem adv_stay {q : Nat} {x : UInt8} (hq : q < s.size) (hr : rest s q = x :: rest s (q + 1)) (hb : blank x = false) : adv s q = q := by
  unfold adv
  rw [if_pos (by omega), hr, skip_nb hb, ← hr, rest_len]
  omega
theorem adv_end {q : Nat} (hq : ¬ q < s.size) : adv s q = q := by
  unfold adv
  split
  · have : rest s q = [] := by apply List.eq_nil_of_length_eq_zero; rw [rest_len]; omega
    rw [this]
    simp [skip]; omega
  · rfl
set_option maxRecDepth 100000 in
set_option maxHeartbeats 8000000 in
theorem rskip_calls (h : Rd W g base s p o c a v) (X : Nat → Prop) (hz : s.size ≤ 4294967296) :
    Calls Tryz.prog 13 #[.pointer (some ⟨g, 0, none⟩)] W fun r W' => r = .returned (.tuple #[]) ∧ Rd W' g base s (adv s p) o c a v ∧ Stp X g W v W' v := by
  have H := Lib.hid h
  have HZ := Lib.hid hz
  clear h hz
  go_enter Tryz.func13, Tryz.ntmps13
  go_wp2_with fail
  go_loopg [] (s.size - p) (fun k W' => ∃ q : Nat, Hid (Rd W' g base s q o c a v) ∧ Hid (Stp X g W v W' v) ∧ Hid (k = s.size - q) ∧ Hid (adv s q = adv s p))
  case atStart => exact ⟨p, H, Lib.hid (Stp.refl X g W v), Lib.hid rfl, Lib.hid rfl⟩
  case round =>
    obtain ⟨q, HS, HT, HK, HA⟩ := hrel
    obtain ⟨c0, c1, c2, c3, c4⟩ := HS.out.reads
    have f1 := HS.out.frz 1
    by_cases hlt : q < s.size
    · have d1 : decide ((q : Int) < (s.size : Int)) = true := by simp; omega
      obtain ⟨x, hx⟩ : ∃ x, s[q]'hlt = x := ⟨_, rfl⟩
      have hr := rest_cons hlt
      rw [hx] at hr
      have HR := Lib.hid hr
      clear hr
      have hw : wrap64 ((q : Int) + 1) = ((q + 1 : Nat) : Int) := by have := HZ.out; unfold wrap64; omega
      cases hb : blank x with
      | true =>
        have hcs : (((x.toNat : Int) == 32) = true) ∨ (((x.toNat : Int) == 32) = false ∧ ((x.toNat : Int) == 10) = true) ∨ (((x.toNat : Int) == 32) = false ∧ ((x.toNat : Int) == 10) = false ∧ ((x.toNat : Int) == 9) = true) := by
          simp only [blank, Bool.or_eq_true, beq_iff_eq] at hb
          rcases hb with (rfl | rfl) | rfl <;> decide
        have HB := Lib.hid hb
        clear hb
        rcases hcs with g1 | ⟨g1, g2⟩ | ⟨g1, g2, g3⟩
        all_goals
          go_wp2_with fail
          go_quiet (fail)
          go_wp2_with fail
          go_roundg (s.size - (q + 1))
          case rel => exact ⟨q + 1, Lib.hid ((HS.out.drewN _).at_ (q + 1) (by omega)), Lib.hid ((HT.out.drewN _).set _), Lib.hid rfl, Lib.hid ((adv_blank hlt HR.out HB.out).trans HA.out)⟩
          case measure => have := HK.out; omega
      | false =>
        have hne : x ≠ 32 ∧ x ≠ 10 ∧ x ≠ 9 := by
          simp only [blank, Bool.or_eq_false_iff, beq_eq_false_iff_ne] at hb
          exact ⟨hb.1.1, hb.1.2, hb.2⟩
        have g1 : ((x.toNat : Int) == 32) = false := u8_ne (y := 32) hne.1
        have g2 : ((x.toNat : Int) == 10) = false := u8_ne (y := 10) hne.2.1
        have g3 : ((x.toNat : Int) == 9) = false := u8_ne (y := 9) hne.2.2
        have HB := Lib.hid hb
        clear hb hne
        go_wp2_with fail
        go_quiet (fail)
        go_wp2_with fail
        go_end0
        exact ⟨rfl, by rw [← HA.out, adv_stay hlt HR.out HB.out]; exact HS.out.drewN _, HT.out.drewN _⟩
    · have d1 : decide ((q : Int) < (s.size : Int)) = false := by simp; omega
      go_wp2_with fail
      go_quiet (fail)
      go_wp2_with fail
      go_end0
      exact ⟨rfl, by rw [← HA.out, adv_end hlt]; exact HS.out.drewN _, HT.out.drewN _⟩
end
end Go.Proofs.YtkcfigfhbeohfaaGreatDoor.Tp
