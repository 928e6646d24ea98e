/- TextNumbers. -/
import Derived.Test.YtkcfigfhbeohfaaDoorTqb
namespace Go.Proofs.YtkcfigfhbeohfaaDoor.Tp
open Go Go.RowKit Go.Maps Go.Proofs.YtkcfigfhbeohfaaDoorW.PrintWords
theorem tw_all {t : List UInt8} (h : t.all digit = true) : t.takeWhile digit = t ∧ t.dropWhile digit = [] := by
  induction t with
  | nil => exact ⟨rfl, rfl⟩
  | cons c t ih =>
    simp only [List.all_cons, Bool.and_eq_true] at h
    simp [h.1, ih h.2]
theorem digit_not {c : UInt8} (h : digit c = true) : blank c = false ∧ small c = false ∧ c ≠ 45 := by
  simp only [digit, Bool.and_eq_true, decide_eq_true_eq] at h
  refine ⟨?_, ?_, ?_⟩
  · simp only [blank, Bool.or_eq_false_iff, beq_eq_false_iff_ne]
    refine ⟨⟨?_, ?_⟩, ?_⟩ <;> (rintro rfl; revert h; decide)
  · simp only [small, Bool.and_eq_false_iff, decide_eq_false_iff_not]; left; omega
  · rintro rfl; revert h; decide
theorem value_number {b : UInt8} {t : List UInt8} (h1 : blank b = false) (h2 : small b = false) (h3 : (digit b || b == 45) = true) : value 20 (b :: t) = number (b :: t) := by
  rw [value_head 19 (b := b) (t := t) (by simp [skip, h1]), if_neg (by rw [h2]; decide), if_pos h3]
theorem parsed_num {l : List UInt8} {n : Int} (hl : l.length ≤ 3000) (h : num l = some n) : parsed l = .ok [⟨3, ⟨#[]⟩, n, 0⟩] := by
  have h0 := h
  rw [num_def] at h
  split at h
  · cases h
  · rename_i hh
    simp only [not_or, Bool.not_eq_false] at hh
    obtain ⟨h1, _, h3, _⟩ := hh
    have key : ∃ b t, l = b :: t ∧ blank b = false ∧ small b = false ∧ (digit b || b == 45) = true ∧ t.all digit = true := by
      cases l with
      | nil => simp [unsigned] at h1
      | cons b t =>
        by_cases hb : b = 45
        · subst hb
          exact ⟨45, t, rfl, by decide, by decide, by decide, by simpa [unsigned] using h3⟩
        · have : unsigned (b :: t) = b :: t := by simp [unsigned, hb]
          rw [this] at h3
          simp only [List.all_cons, Bool.and_eq_true] at h3
          obtain ⟨e1, e2, _⟩ := digit_not h3.1
          exact ⟨b, t, rfl, e1, e2, by rw [h3.1]; rfl, h3.2⟩
    obtain ⟨b, t, rfl, e1, e2, e3, e4⟩ := key
    unfold parsed
    rw [if_neg (by omega), value_number e1 e2 e3]
    simp only [number, (tw_all e4).1, (tw_all e4).2, h0, skip, List.dropWhile_nil]
    rfl
theorem parsed_none {l : List UInt8} (hl : l.length ≤ 3000) (hne : l ≠ []) (hd : l.all digit = true) (h : num l = none) : parsed l = .error (10, 0) := by
  cases l with
  | nil => exact absurd rfl hne
  | cons b t =>
    have hd' := hd
    simp only [List.all_cons, Bool.and_eq_true] at hd
    obtain ⟨e1, e2, _⟩ := digit_not hd.1
    unfold parsed
    rw [if_neg (by omega), value_number e1 e2 (by rw [hd.1]; rfl)]
    simp only [number, (tw_all hd.2).1, h]
    simp
/-- However Parse ends. -/
theorem PRes.any {s : ByteArray} {W W' : World} {r : Ending} (h : PRes s W r W') : ∃ v c q, r = .returned (.tuple #[v, .agg #[.int .i64 c, .int .i64 q]]) ∧ Below W.heap.size W W' ∧ (∀ e, parsed s.data.toList = .error e → c = e.1 ∧ q = e.2) := by
  cases hx : parsed s.data.toList with
  | error e =>
    obtain ⟨c, q⟩ := e
    obtain ⟨h1, h2⟩ := h.err hx
    exact ⟨_, c, q, h1, h2, fun e he => by cases he; exact ⟨rfl, rfl⟩⟩
  | ok o =>
    obtain ⟨a, cap, h1, _, h3⟩ := h.ok hx
    exact ⟨_, 0, 0, h1, h3, fun e he => by cases he⟩
theorem all_snoc {l : List UInt8} {q : Nat} (hq : q < l.length) (h : (l.take q).all digit = true) (hc : digit l[q] = true) : (l.take (q + 1)).all digit = true := by
  rw [List.take_succ_eq_append_getElem hq, List.all_append, h]
  simp [hc]
set_option maxHeartbeats 8000000 in
set_option maxRecDepth 100000 in
theorem textNumbers_calls (W : World) (s : ByteArray) (hz : s.size ≤ 140737488351232) : Calls Tryd.prog 6 #[.string s] W fun e W' => e = .returned (.bool true) ∧ Below W.heap.size W W' := by
  by_cases hbig : 3000 < s.size
  · have d1 : decide ((3000 : Int) < (s.size : Int)) = true := by simp; omega
    go_enter Tryd.func6, Tryd.ntmps6
    go_wp2_with fail
    go_ret
    exact ⟨rfl, Below.refl _ _⟩
  · have d1 : decide ((3000 : Int) < (s.size : Int)) = false := by simp; omega
    have hl : s.data.toList.length = s.size := by simp
    by_cases h0 : s.size = 0
    · have hs0 : s = ⟨#[]⟩ := ByteArray.ext (Array.eq_empty_of_size_eq_zero h0)
      subst hs0
      clear d1
      go_enter Tryd.func6, Tryd.ntmps6
      go_wp2_with fail
      go_ret
      exact ⟨rfl, Below.refl _ _⟩
    · have hemp : s.toList.isEmpty = false := by
        rw [ByteArray.toList_eq]
        cases hs : s.data.toList with
        | nil => rw [hs] at hl; simp at hl; omega
        | cons => rfl
      have HS := Lib.hid (show s.size ≤ 4611686018427387904 by omega)
      have kb := fun W => conv_bytes W s
      cases hn : num s.data.toList with
      | some n =>
        have CN := Lib.hid (number_some s n W HS.out hn)
        have HP := Lib.hid (parsed_num (by omega) hn)
        obtain ⟨_, _, l1, l2⟩ := atoi_num hn
        clear hl hn hz hbig h0
        go_enter Tryd.func6, Tryd.ntmps6
        go_wp2_with (first | (go_at_call 10; refine CN.out.mono ?_; rintro e1 W1 ⟨rfl, hb⟩; have E1 := Lib.hid hb; clear hb) | (go_at_call 13; refine (parse_str _ s _ HS.out).mono ?_; intro e1 W2 hR; obtain ⟨g2, cap2, rfl, ho, hg, hb1, hbg⟩ := hR.okn HP.out (n := 0) rfl; have O2 := Lib.hid (Ex.lone W2 g2 _ ho hg); have E2 := Lib.hid (E1.out.trans (((bytes_below W1 s).trans (hb1.mono (by rw [Lib.bytesWorld_size]; omega))).mono E1.out.size)); clear hR ho hg hb1 hbg) | (go_at_call 12; refine (parses_calls _).mono ?_; rintro e1 W3 ⟨rfl, hb⟩; have O3 := Lib.hid (O2.out.below hb); have E3 := Lib.hid ((E2.out.alloc E2.out.size _).trans (hb.mono (by rw [World.size_alloc]; have := E2.out.size; omega))); obtain ⟨k0, k1⟩ := O3.out.reads; clear hb) | (go_at_call 14; refine (same_n _ [⟨3, ⟨#[]⟩, n, 0⟩] 1 g2 W3.heap.size cap2 1 rfl (O3.out.r1.below ((Below.refl _ W3).alloc (Nat.le_refl _) _) O3.out.l1) (row_new W3 _ _ rfl) (by simp)).mono ?_; rintro e1 W4 ⟨rfl, n4, hn4⟩; have E4 : Hid (Below W.heap.size W W4) := Lib.hid (by rw [hn4]; exact belN (E3.out.alloc E3.out.size _) _); clear hn4))
        go_ret
        exact ⟨rfl, E4.out⟩
      | none =>
        have CN := Lib.hid (number_none s W HS.out hn)
        have HP := Lib.hid (fun hd => parsed_none (l := s.data.toList) (by omega) (by intro e; rw [e] at hl; simp at hl; omega) hd hn)
        have HL := Lib.hid hl
        have H3 := Lib.hid (show s.size ≤ 3000 by omega)
        clear hl hn hz hbig h0
        go_enter Tryd.func6, Tryd.ntmps6
        go_wp2_with (first | (go_at_call 10; refine CN.out.mono ?_; rintro e1 W1 ⟨rfl, hb⟩; have E1 := Lib.hid hb; clear hb) | (go_at_call 13; refine (parse_str _ s _ HS.out).mono ?_; intro e1 W2 hR; obtain ⟨v2, c2, q2, rfl, hb1, hcq⟩ := hR.any; have HCQ := Lib.hid hcq; have E2 := Lib.hid (E1.out.trans (((bytes_below W1 s).trans (hb1.mono (by rw [Lib.bytesWorld_size]; omega))).mono E1.out.size)); clear hR hb1 hcq))
        obtain ⟨F, hF⟩ : ∃ F, W2.heap.size = F := ⟨_, rfl⟩
        have F2 : Hid ((W2.alloc (.cells #[.int .i64 c2, .int .i64 q2] 31)).heap[F]? = some (.cells #[.int .i64 c2, .int .i64 q2] 31 (0, 0))) := Lib.hid (by rw [← hF]; exact blk_new W2 _)
        rw [hF]
        go_loopg [7] s.size (fun k v7 W' => ∃ q : Nat, v7 = .int .i64 (q : Int) ∧ Hid (k = s.size - q) ∧ Hid (q ≤ s.size) ∧ Hid ((s.data.toList.take q).all digit = true) ∧ Hid (W'.heap[F]? = some (.cells #[.int .i64 c2, .int .i64 q2] 31 (0, 0))) ∧ Hid (Below W.heap.size W W'))
        case atStart => exact ⟨0, rfl, Lib.hid rfl, Lib.hid (Nat.zero_le _), Lib.hid (by simp), F2, Lib.hid (E2.out.alloc E2.out.size _)⟩
        case round =>
          clear F2 E2 hF
          obtain ⟨q, rfl, HK, HQ, HD, HF, HE⟩ := hrel
          by_cases hlt : q < s.size
          · have d1 : decide ((q : Int) < (s.size : Int)) = true := by simp; omega
            obtain ⟨c, hc⟩ : ∃ c, s[q]'hlt = c := ⟨_, rfl⟩
            have HC := Lib.hid hc
            by_cases hlow : c.toNat < 48
            · have d2 : decide ((c.toNat : Int) < 48) = true := by simp; omega
              go_wp2_with (first | (go_at_call 12; refine (parses_calls _).mono ?_; rintro e1 W3 ⟨rfl, hb⟩; have E3 := Lib.hid (HE.out.trans (hb.mono HE.out.size)); clear hb))
              go_ret
              exact ⟨rfl, E3.out⟩
            · have d2 : decide ((c.toNat : Int) < 48) = false := by simp; omega
              by_cases hhigh : 57 < c.toNat
              · have d3 : decide ((57 : Int) < (c.toNat : Int)) = true := by simp; omega
                go_wp2_with (first | (go_at_call 12; refine (parses_calls _).mono ?_; rintro e1 W3 ⟨rfl, hb⟩; have E3 := Lib.hid (HE.out.trans (hb.mono HE.out.size)); clear hb))
                go_ret
                exact ⟨rfl, E3.out⟩
              · have d3 : decide ((57 : Int) < (c.toNat : Int)) = false := by simp; omega
                have hw : wrap64 ((q : Int) + 1) = ((q + 1 : Nat) : Int) := by have := H3.out; unfold wrap64; omega
                have HDG := Lib.hid (show digit c = true by simp [digit]; omega)
                go_wp2_with fail
                go_roundg (s.size - (q + 1))
                case rel => exact ⟨q + 1, by rw [hw], Lib.hid rfl, Lib.hid hlt, Lib.hid (all_snoc (by rw [HL.out]; exact hlt) HD.out (by have := HC.out; rw [show s.data.toList[q] = s[q] from rfl, this]; exact HDG.out)), HF, HE⟩
                case measure => have := HK.out; omega
          · have d1 : decide ((q : Int) < (s.size : Int)) = false := by simp; omega
            obtain ⟨rfl, rfl⟩ : c2 = 10 ∧ q2 = 0 := HCQ.out _ (HP.out (by
              have h1 := HD.out
              have h2 := HQ.out
              rwa [List.take_of_length_le (by rw [HL.out]; omega)] at h1))
            go_wp2_with (first | (go_at_call 12; refine (parses_calls _).mono ?_; rintro e1 W3 ⟨rfl, hb⟩; have F3 := Lib.hid (blk_below HF.out hb); have E3 := Lib.hid (HE.out.trans (hb.mono HE.out.size)); have k0 := (blk_cell F3.out 0).trans rfl; have k1 := (blk_cell F3.out 1).trans rfl; clear hb))
            go_ret
            exact ⟨rfl, E3.out⟩
end Go.Proofs.YtkcfigfhbeohfaaDoor.Tp
