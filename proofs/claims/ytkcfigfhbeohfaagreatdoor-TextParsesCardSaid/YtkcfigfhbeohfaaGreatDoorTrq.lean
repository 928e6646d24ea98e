/- TextParses. -/
import Derived.Test.YtkcfigfhbeohfaaGreatDoorTrp
import Derived.Test.YtkcfigfhbeohfaaGreatDoorTqe
namespace Go.Proofs.YtkcfigfhbeohfaaGreatDoor.Tp
open Go Go.RowKit Go.Maps Go.Proofs.YtkcfigfhbeohfaaGreatDoorW.PrintWords
set_option maxHeartbeats 4000000 in
set_option maxRecDepth 100000 in
theorem same_nil (W : World) : Calls Tryz.prog 7 #[.slice none 0 0, .slice none 0 0] W fun e W' => e = .returned (.bool true) ∧ ∃ n, W' = W.drewN n := by
  go_enter Tryz.func7, Tryz.ntmps7
  go_wp2_with fail
  go_loopg [5] 0 (fun k v5 W' => v5 = .int .i64 0 ∧ Hid (W' = W))
  case atStart => exact ⟨rfl, Lib.hid rfl⟩
  case round =>
    obtain ⟨rfl, HW⟩ := hrel
    go_wp2_with fail
    go_ret
    exact ⟨rfl, 0, HW.out⟩
theorem parsed_okl {l : List UInt8} {o : List Nd} (h : parsed l = .ok o) : o.length ≤ l.length ∧ 0 < o.length := by
  unfold parsed at h
  split at h
  · cases h
  · split at h
    · cases h
    · rename_i o' r hv
      split at h
      · split at h
        · cases h
          have h1 := value_len _ _ _ _ hv
          exact ⟨by omega, List.length_pos_iff.2 (value_ne hv)⟩
        · cases h
      · cases h
theorem PRes.okw {s : ByteArray} {W W' : World} {r : Ending} {o : List Nd} (hx : parsed s.data.toList = .ok o) {n : Nat} (hn : o.length = n) (h0 : 0 < n) (h : PRes s W r W') : ∃ g cap, r = .returned (.tuple #[.slice (some ⟨g, 0, none⟩) n cap, .agg #[.int .i64 0, .int .i64 0]]) ∧ Row W' g o ∧ g < W'.heap.size ∧ Below W.heap.size W W' := by
  obtain ⟨a, cap, h1, h2, h3⟩ := h.ok hx
  rw [hn] at h1 h2
  rcases h2.2 with ⟨_, h4⟩ | ⟨g, cap', cur, h4, _, h6, _, _, h9, h10⟩
  · omega
  · injection h4 with e1 _ e2
    subst e1; subst e2
    exact ⟨g, cap, h1, fun i hi => (by rw [Lib.cell_of_heap h6, ← h10, List.getElem?_take_of_lt (by omega), Array.getElem?_toList]), blk_lt h6, h3⟩
set_option maxHeartbeats 8000000 in
set_option maxRecDepth 100000 in
theorem textParses_calls (W : World) (A : Option Addr) (c : Nat) (s : ByteArray) (hc : s.size ≤ c) (h : By W A s) : Calls Tryz.prog 3 #[.slice A s.size c] W fun e W' => e = .returned (.bool true) ∧ Below W.heap.size W W' := by
  by_cases hsk : 3000 < s.size ∧ s.size ≤ 20000
  · have d1 : decide ((3000 : Int) < (s.size : Int)) = true := by simp; omega
    have d2 : decide ((s.size : Int) ≤ 20000) = true := by simp; omega
    clear h hsk
    go_enter Tryz.func3, Tryz.ntmps3
    go_wp2_with fail
    go_ret
    exact ⟨rfl, Below.refl _ _⟩
  · by_cases hbig : 30000 < s.size
    · have d1 : decide ((3000 : Int) < (s.size : Int)) = true := by simp; omega
      have d2 : decide ((s.size : Int) ≤ 20000) = false := by simp; omega
      have d3 : decide ((30000 : Int) < (s.size : Int)) = true := by simp; omega
      clear h hsk
      go_enter Tryz.func3, Tryz.ntmps3
      go_wp2_with fail
      go_ret
      exact ⟨rfl, Below.refl _ _⟩
    · have hcs : decide ((3000 : Int) < (s.size : Int)) = false ∨ decide ((3000 : Int) < (s.size : Int)) = true ∧ decide ((s.size : Int) ≤ 20000) = false := by
        simp; omega
      have d3 : decide ((30000 : Int) < (s.size : Int)) = false := by simp; omega
      have CP := Lib.hid (parse_by W A c s h (by omega))
      have HZ := Lib.hid (show s.size ≤ 1073741824 by omega)
      have kb0 := h.conv c
      have HB := Lib.hid h
      have t1 : (s.toList == s.toList) = true := beq_self_eq_true _
      cases hp : parsed s.data.toList with
      | error e =>
        obtain ⟨ec, eq⟩ := e
        have HP := Lib.hid hp
        clear h hsk hp hbig
        rcases hcs with d1 | ⟨d1, d2⟩
        all_goals
          go_enter Tryz.func3, Tryz.ntmps3
          go_wp2_with (first | (go_at_call 4; (with_reducible refine CP.out.mono ?_); intro e1 W1 hR; obtain ⟨rfl, hb1⟩ := hR.err HP.out; have E1 := Lib.hid hb1; have F1 := Lib.hid (blk_new W1 (.cells #[.int .i64 ec, .int .i64 eq] 26)); clear hR hb1) | (go_at_call 5; (with_reducible refine (refparse_calls _ s HZ.out).mono ?_); intro e1 W2 hR; obtain ⟨rfl, hb⟩ := hR.err HP.out; have E2 := Lib.hid ((E1.out.alloc E1.out.size _).trans (hb.mono (by rw [World.size_alloc]; have := E1.out.size; omega))); have G1 := Lib.hid (blk_alloc (blk_below F1.out hb) (.cells #[.int .i64 ec, .int .i64 eq] 26)); have F2 := Lib.hid (blk_new W2 (.cells #[.int .i64 ec, .int .i64 eq] 26)); clear hR hb) | (go_at_call 6; (with_reducible refine (parses_calls _).mono ?_); rintro e1 W3 ⟨rfl, hb⟩; have E3 := Lib.hid ((E2.out.alloc E2.out.size _).trans (hb.mono (by rw [World.size_alloc]; have := E2.out.size; omega))); have f0 := (blk_cell (blk_below G1.out hb) 0).trans rfl; have f1 := (blk_cell (blk_below G1.out hb) 1).trans rfl; have g0 := (blk_cell (blk_below F2.out hb) 0).trans rfl; have g1 := (blk_cell (blk_below F2.out hb) 1).trans rfl; have kb3 := (fun n => (HB.out.below (Nat.le_refl _) (belN E3.out n)).conv c); clear hb) | (go_at_call 7; (with_reducible refine (same_nil _).mono ?_); rintro e1 W4 ⟨rfl, n4, rfl⟩))
          go_ret
          exact ⟨rfl, belN E3.out _⟩
      | ok o =>
        obtain ⟨n, hn⟩ : ∃ n, o.length = n := ⟨_, rfl⟩
        obtain ⟨hl, h0⟩ := parsed_okl hp
        rw [hn] at hl h0
        have hsl : s.data.toList.length = s.size := by simp
        have HP := Lib.hid hp
        have HN := Lib.hid hn
        have H0 := Lib.hid h0
        have HL := Lib.hid (show o.length ≤ 4294967296 by omega)
        clear h hsk hp hbig hn hl h0 hsl
        rcases hcs with d1 | ⟨d1, d2⟩
        all_goals
          go_enter Tryz.func3, Tryz.ntmps3
          go_wp2_with (first | (go_at_call 4; (with_reducible refine CP.out.mono ?_); intro e1 W1 hR; obtain ⟨b1, cap1, rfl, hr1, hl1, hb1⟩ := hR.okw HP.out HN.out H0.out; have E1 := Lib.hid hb1; have R1 := Lib.hid hr1; have L1 := Lib.hid hl1; have F1 := Lib.hid (blk_new W1 (.cells #[.int .i64 0, .int .i64 0] 26)); clear hR hb1 hr1 hl1) | (go_at_call 5; (with_reducible refine (refparse_calls _ s HZ.out).mono ?_); intro e1 W2 hR; obtain ⟨b2, cap2, rfl, hr2, hl2, hb⟩ := hR.okw HP.out HN.out H0.out; have E2 := Lib.hid ((E1.out.alloc E1.out.size _).trans (hb.mono (by rw [World.size_alloc]; have := E1.out.size; omega))); have R2 := Lib.hid hr2; have L2 := Lib.hid hl2; have M2 := Lib.hid (show b1 < W2.heap.size by have := hb.size; rw [World.size_alloc] at this; have := L1.out; omega); have Q2 := Lib.hid ((R1.out.below (below_alloc (Below.refl _ W1) _) L1.out).below hb (by rw [World.size_alloc]; have := L1.out; omega)); have G1 := Lib.hid (blk_alloc (blk_below F1.out hb) (.cells #[.int .i64 0, .int .i64 0] 26)); have F2 := Lib.hid (blk_new W2 (.cells #[.int .i64 0, .int .i64 0] 26)); clear hR hb hr2 hl2) | (go_at_call 6; (with_reducible refine (parses_calls _).mono ?_); rintro e1 W3 ⟨rfl, hb⟩; have E3 := Lib.hid ((E2.out.alloc E2.out.size _).trans (hb.mono (by rw [World.size_alloc]; have := E2.out.size; omega))); have R3 := Lib.hid ((R2.out.below (below_alloc (Below.refl _ W2) _) L2.out).below hb (by rw [World.size_alloc]; have := L2.out; omega)); have Q3 := Lib.hid ((Q2.out.below (below_alloc (Below.refl _ W2) _) M2.out).below hb (by rw [World.size_alloc]; have := M2.out; omega)); have f0 := (blk_cell (blk_below G1.out hb) 0).trans rfl; have f1 := (blk_cell (blk_below G1.out hb) 1).trans rfl; have g0 := (blk_cell (blk_below F2.out hb) 0).trans rfl; have g1 := (blk_cell (blk_below F2.out hb) 1).trans rfl; have kb3 := (fun n => (HB.out.below (Nat.le_refl _) (belN E3.out n)).conv c); clear hb) | (go_at_call 7; (with_reducible refine (same_n _ o n b1 b2 cap1 cap2 HN.out Q3.out R3.out HL.out).mono ?_); rintro e1 W4 ⟨rfl, n4, rfl⟩))
          go_ret
          exact ⟨rfl, belN E3.out _⟩
end Go.Proofs.YtkcfigfhbeohfaaGreatDoor.Tp
