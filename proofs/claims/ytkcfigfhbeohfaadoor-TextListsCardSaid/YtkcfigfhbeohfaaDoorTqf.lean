/- TextEnds. -/
import Derived.Test.YtkcfigfhbeohfaaDoorTqe
namespace Go.Proofs.YtkcfigfhbeohfaaDoor.Tp
open Go Go.RowKit Go.Maps Go.Proofs.YtkcfigfhbeohfaaDoorW.PrintWords
theorem parsed_ok {l : List UInt8} {o : List Nd} (h : parsed l = .ok o) : ∃ r, value 20 l = .ok (o, r) ∧ skip r = [] := by
  unfold parsed at h
  split at h
  · cases h
  · split at h
    · cases h
    · rename_i o' r hv
      split at h
      · rename_i hs
        split at h
        · cases h; exact ⟨r, hv, hs⟩
        · cases h
      · cases h
theorem parsed_ends {l : List UInt8} {x : UInt8} {o : List Nd} (hl : l.length ≤ 3000) (h : parsed (l ++ [x]) = .ok o) (hx : x = 93 ∨ x = 125 ∨ x = 34) : parsed l = .error (11, (l.length : Int)) ∧ l ≠ [] := by
  obtain ⟨r, h1, h2⟩ := parsed_ok h
  obtain ⟨h3, h4⟩ := ends h1 h2 hx
  refine ⟨?_, h4⟩
  unfold parsed
  rw [if_neg (by omega), h3]
  simp
set_option maxHeartbeats 8000000 in
set_option maxRecDepth 100000 in
theorem textEnds_calls (W : World) (A : Option Addr) (c : Nat) (s : ByteArray) (hc : s.size ≤ c) (h : By W A s) : Calls Tryd.prog 7 #[.slice A s.size c] W fun e W' => e = .returned (.bool true) ∧ Below W.heap.size W W' := by
  by_cases hbig : 3000 < s.size
  · have d1 : decide ((3000 : Int) < (s.size : Int)) = true := by simp; omega
    clear h
    go_enter Tryd.func7, Tryd.ntmps7
    go_wp2_with fail
    go_ret
    exact ⟨rfl, Below.refl _ _⟩
  · have d1 : decide ((3000 : Int) < (s.size : Int)) = false := by simp; omega
    by_cases h0 : s.size = 0
    · have hn : ((s.size : Int) == 0) = true := by rw [beq_iff_eq]; omega
      clear h h0
      go_enter Tryd.func7, Tryd.ntmps7
      go_wp2_with fail
      go_ret
      exact ⟨rfl, Below.refl _ _⟩
    · obtain ⟨b, o, rfl, hcell⟩ := h.head (by omega)
      have hn : ((s.size : Int) == 0) = false := by rw [beq_eq_false_iff_ne]; omega
      obtain ⟨m, hm⟩ : ∃ m, s.size = m + 1 := ⟨s.size - 1, by omega⟩
      have hw : wrap64 ((s.size : Int) - 1) = (m : Int) := by unfold wrap64; omega
      have hml : (m : Int) < (s.size : Int) := by omega
      obtain ⟨x, hx⟩ : ∃ x, s[m]'(by omega) = x := ⟨_, rfl⟩
      have hk := hcell m (by omega)
      rw [hx] at hk
      have hsl : s.data.toList.length = s.size := by simp
      obtain ⟨l, hl, hll⟩ : ∃ l, s.data.toList = l ++ [x] ∧ l.length = m := by
        refine ⟨s.data.toList.take m, ?_, by rw [List.length_take]; omega⟩
        have e := List.take_append_drop m s.data.toList
        rw [List.drop_eq_getElem_cons (by omega), List.drop_of_length_le (by omega)] at e
        have : s.data.toList[m]'(by omega) = x := hx
        rw [this] at e
        exact e.symm
      have CP := Lib.hid (parse_by W (some ⟨b, o, none⟩) c s h (by omega))
      rw [hm] at CP
      rw [hm]
      clear hn hw hml
      have e1 : decide ((3000 : Int) < (m : Int) + 1) = false := by simp; omega
      have e2 : ((m : Int) + 1 == 0) = false := by rw [beq_eq_false_iff_ne]; omega
      have e3 : (m : Int) < (m : Int) + 1 := by omega
      have hw : wrap64 (m : Int) = (m : Int) := by unfold wrap64; omega
      have HB := Lib.hid h
      have HM := Lib.hid hm
      have HLL := Lib.hid hll
      have H3 := Lib.hid (show s.size ≤ 3000 by omega)
      have HP := Lib.hid (fun o' (hp : parsed s.data.toList = .ok o') (hxx : x = 93 ∨ x = 125 ∨ x = 34) => by rw [hl] at hp; exact parsed_ends (l := l) (by omega) hp hxx)
      have hlt := cell_lt hk
      have HLT := Lib.hid hlt
      cases hp : parsed s.data.toList with
      | error e =>
        obtain ⟨ec, eq⟩ := e
        have HPE := Lib.hid hp
        clear hcell h hm hx hl hll hsl hp hlt
        go_enter Tryd.func7, Tryd.ntmps7
        go_wp2_with (first | (go_at_call 13; with_reducible refine CP.out.mono ?_; intro e1 W1 hR; obtain ⟨rfl, hb1⟩ := hR.err HPE.out; have E1 := Lib.hid hb1; have ks : ∀ ob, (W1.alloc ob).cell? ⟨b, o + m, none⟩ = some (.int .u8 (x.toNat : Int)) := (fun ob => by rw [← hk]; exact (hb1.alloc hb1.size ob).cell (p := ⟨b, o + m, none⟩) HLT.out); clear hR hb1) | (go_at_call 12; refine (parses_calls _).mono ?_; rintro e1 W3 ⟨rfl, hb⟩; have E3 := Lib.hid ((E1.out.alloc E1.out.size _).trans (hb.mono (by rw [World.size_alloc]; have := E1.out.size; omega))); clear hb))
        all_goals (go_ret; exact ⟨rfl, E3.out⟩)
      | ok o2 =>
        have HPE := Lib.hid hp
        by_cases ho : o2.length = 0
        · have t0 : ((o2.length : Int) == 0) = true := by rw [beq_iff_eq]; omega
          clear hcell h hm hx hl hll hsl hp hlt ho
          go_enter Tryd.func7, Tryd.ntmps7
          go_wp2_with (first | (go_at_call 13; with_reducible refine CP.out.mono ?_; intro e1 W1 hR; obtain ⟨a2, cap2, rfl, _, hb1⟩ := hR.ok HPE.out; have E1 := Lib.hid hb1; have ks : ∀ ob, (W1.alloc ob).cell? ⟨b, o + m, none⟩ = some (.int .u8 (x.toNat : Int)) := (fun ob => by rw [← hk]; exact (hb1.alloc hb1.size ob).cell (p := ⟨b, o + m, none⟩) HLT.out); clear hR hb1) | (go_at_call 12; refine (parses_calls _).mono ?_; rintro e1 W3 ⟨rfl, hb⟩; have E3 := Lib.hid ((E1.out.alloc E1.out.size _).trans (hb.mono (by rw [World.size_alloc]; have := E1.out.size; omega))); clear hb))
          all_goals (go_ret; exact ⟨rfl, E3.out⟩)
        · have t0 : ((o2.length : Int) == 0) = false := by rw [beq_eq_false_iff_ne]; omega
          by_cases hxx : x = 93 ∨ x = 125 ∨ x = 34
          · obtain ⟨T, hT⟩ : ∃ T, s.extract 0 m = T := ⟨_, rfl⟩
            have hTl : T.data.toList = l := by
              rw [← hT, Lib.extract_data, hl, List.drop_zero, Nat.sub_zero, ← hll, List.take_left]
            have hTs : T.size = m := by rw [← hll, ← hTl]; simp
            have hTx : ∀ j (h1 : j < T.size) (h2 : j < s.size), T[j] = s[j] := by
              intro j h1 h2
              have e1 : T.data.toList[j]? = s.data.toList[j]? := by rw [hTl, hl, List.getElem?_append_left (by omega)]
              rw [List.getElem?_eq_getElem (show j < T.data.toList.length by simpa using h1), List.getElem?_eq_getElem (show j < s.data.toList.length by simpa using h2), Option.some.injEq] at e1
              exact e1
            obtain ⟨hpe, hne⟩ := HP.out o2 hp hxx
            have CT : Hid (∀ W', Below W.heap.size W W' → Calls Tryd.prog 13 #[.slice (some ⟨b, o, none⟩) m c] W' fun e W'' => e = .returned (.tuple #[.slice none 0 0, .agg #[.int .i64 11, .int .i64 (m : Int)]]) ∧ Below W'.heap.size W' W'') := Lib.hid (fun W' hb => by
              have h1 := parse_by W' (some ⟨b, o, none⟩) c T ((h.below (Nat.le_refl _) hb).init (by omega) hTx) (by omega)
              rw [hTs] at h1
              refine h1.mono fun e W'' hR => ?_
              have := hR.err (c := 11) (q := (m : Int)) (by rw [hTl, hpe, hll])
              exact this)
            have hmc : m ≤ c := by omega
            have hm1 : 1 ≤ m := by
              cases l with
              | nil => exact absurd rfl hne
              | cons => simp at hll; omega
            have hcases := hxx
            clear hcell h hm hx hl hll hsl hp hlt ho hT hTl hTs hTx hpe hne hxx
            have hcs : (((x.toNat : Int) != 93) = false) ∨ (((x.toNat : Int) != 93) = true ∧ ((x.toNat : Int) != 125) = false) ∨ (((x.toNat : Int) != 93) = true ∧ ((x.toNat : Int) != 125) = true ∧ ((x.toNat : Int) != 34) = false) := by
              rcases hcases with rfl | rfl | rfl <;> decide
            clear hcases
            rcases hcs with g1 | ⟨g1, g2⟩ | ⟨g1, g2, g3⟩
            all_goals
              go_enter Tryd.func7, Tryd.ntmps7
              go_wp2_with (first | (go_at_call 13; with_reducible refine CP.out.mono ?_; intro e1 W1 hR; obtain ⟨a2, cap2, rfl, _, hb1⟩ := hR.ok HPE.out; have E1 := Lib.hid hb1; have ks : ∀ ob, (W1.alloc ob).cell? ⟨b, o + m, none⟩ = some (.int .u8 (x.toNat : Int)) := (fun ob => by rw [← hk]; exact (hb1.alloc hb1.size ob).cell (p := ⟨b, o + m, none⟩) HLT.out); clear hR hb1) | (go_at_call 13; with_reducible refine (CT.out _ (E1.out.alloc E1.out.size _)).mono ?_; rintro e1 W2 ⟨rfl, hb⟩; have E2 := Lib.hid ((E1.out.alloc E1.out.size _).trans (hb.mono (by rw [World.size_alloc]; have := E1.out.size; omega))); have F2 := Lib.hid (blk_new W2 (.cells #[.int .i64 11, .int .i64 (m : Int)] 31)); clear hb) | (go_at_call 12; refine (parses_calls _).mono ?_; rintro e1 W3 ⟨rfl, hb⟩; have E3 := Lib.hid ((E2.out.alloc E2.out.size _).trans (hb.mono (by rw [World.size_alloc]; have := E2.out.size; omega))); have F3 := Lib.hid (blk_below F2.out hb); have k0 := (blk_cell F3.out 0).trans rfl; have k1 := (blk_cell F3.out 1).trans rfl; clear hb))
              go_ret
              exact ⟨rfl, E3.out⟩
          · have n1 : ((x.toNat : Int) != 93) = true := by rw [bne, show ((x.toNat : Int) == 93) = false from u8_ne (y := 93) (fun e => hxx (.inl e))]; rfl
            have n2 : ((x.toNat : Int) != 125) = true := by rw [bne, show ((x.toNat : Int) == 125) = false from u8_ne (y := 125) (fun e => hxx (.inr (.inl e)))]; rfl
            have n3 : ((x.toNat : Int) != 34) = true := by rw [bne, show ((x.toNat : Int) == 34) = false from u8_ne (y := 34) (fun e => hxx (.inr (.inr e)))]; rfl
            clear hcell h hm hx hl hll hsl hp hlt ho hxx
            go_enter Tryd.func7, Tryd.ntmps7
            go_wp2_with (first | (go_at_call 13; with_reducible refine CP.out.mono ?_; intro e1 W1 hR; obtain ⟨a2, cap2, rfl, _, hb1⟩ := hR.ok HPE.out; have E1 := Lib.hid hb1; have ks : ∀ ob, (W1.alloc ob).cell? ⟨b, o + m, none⟩ = some (.int .u8 (x.toNat : Int)) := (fun ob => by rw [← hk]; exact (hb1.alloc hb1.size ob).cell (p := ⟨b, o + m, none⟩) HLT.out); clear hR hb1) | (go_at_call 12; refine (parses_calls _).mono ?_; rintro e1 W3 ⟨rfl, hb⟩; have E3 := Lib.hid ((E1.out.alloc E1.out.size _).trans (hb.mono (by rw [World.size_alloc]; have := E1.out.size; omega))); clear hb))
            all_goals (go_ret; exact ⟨rfl, E3.out⟩)
end Go.Proofs.YtkcfigfhbeohfaaDoor.Tp
