/- TextBack. -/
import Derived.Test.YtkcfigfhbeohfaaDoorTqa
namespace Go.Proofs.YtkcfigfhbeohfaaDoor.Tp
open Go Go.RowKit Go.Maps Go.Proofs.YtkcfigfhbeohfaaDoorW.PrintWords
theorem str_end (t acc : List UInt8) : str (34 :: t) acc = .ok (acc, t) := by unfold str; rw [if_pos rfl]
theorem str_bs (y : UInt8) (u acc : List UInt8) (h : y = 34 ∨ y = 92) : str (92 :: y :: u) acc = str u (acc ++ [y]) := by conv => lhs; unfold str
                                                                                                                          rw [if_neg (by decide), if_pos rfl]; simp only; rw [if_pos h]
theorem str_nl (u acc : List UInt8) : str (92 :: 110 :: u) acc = str u (acc ++ [10]) := by conv => lhs; unfold str
                                                                                           rw [if_neg (by decide), if_pos rfl]; simp only; rw [if_neg (by decide), if_pos trivial]
theorem str_one (c : UInt8) (u acc : List UInt8) (h1 : ¬(c = 34 ∨ c = 92)) (h3 : ¬(c.toNat < 32 ∨ 126 < c.toNat)) : str (c :: u) acc = str u (acc ++ [c]) := by
  conv => lhs; unfold str
  rw [if_neg (fun e => h1 (.inl e)), if_neg (fun e => h1 (.inr e)), if_neg h3]
theorem row_new (W : World) (cs : Array Value) (o : List Nd) (h : cs.toList = encs o) : Row (W.alloc (.cells cs 38)) W.heap.size o := fun i hi => by
  rw [blk_cell (blk_new W _) i, ← h, Array.getElem?_toList]
theorem Ex.lone (W : World) (g : Nat) (o : List Nd) (h : Row W g o) (hg : g < W.heap.size) : Ex (W.alloc (.cells #[.int .i64 0, .int .i64 0] 31)) W.heap.size g g o := by
  have hb : Below W.heap.size W (W.alloc (.cells #[.int .i64 0, .int .i64 0] 31)) := (Below.refl _ W).alloc (Nat.le_refl _) _
  have h2 := h.below hb hg
  have h3 : g < (W.alloc (.cells #[.int .i64 0, .int .i64 0] 31)).heap.size := by rw [World.size_alloc]; omega
  exact ⟨blk_new W _, h2, h2, h3, h3⟩
theorem str_escs : ∀ (s y acc t : List UInt8), escs s = some y → str (y ++ 34 :: t) acc = .ok (acc ++ s, t)
  | [], y, acc, t, h => by
    simp only [escs, Option.some.injEq] at h
    subst h
    simp [str_end]
  | c :: s, y, acc, t, h => by
    simp only [escs] at h
    cases he : esc c with
    | none => rw [he] at h; simp at h
    | some x =>
      cases hs : escs s with
      | none => rw [he, hs] at h; simp at h
      | some z =>
        rw [he, hs] at h
        simp only [Option.some.injEq] at h
        subst h
        have ih := fun a => str_escs s z a t hs
        unfold esc at he
        by_cases h1 : c = 34 ∨ c = 92
        · rw [if_pos h1] at he
          cases he
          simp only [List.cons_append, List.nil_append]
          rw [str_bs _ _ _ h1, ih]; simp
        · rw [if_neg h1] at he
          by_cases h2 : c = 10
          · rw [if_pos h2] at he
            cases he
            simp only [List.cons_append, List.nil_append]
            rw [str_nl, ih, h2]; simp
          · rw [if_neg h2] at he
            by_cases h3 : c.toNat < 32 ∨ 126 < c.toNat
            · rw [if_pos h3] at he; cases he
            · rw [if_neg h3] at he
              cases he
              simp only [List.cons_append, List.nil_append]
              rw [str_one _ _ _ h1 h3, ih]; simp
theorem escs_len : ∀ (s y : List UInt8), escs s = some y → y.length ≤ 2 * s.length
  | [], y, h => by simp only [escs, Option.some.injEq] at h; subst h; simp
  | c :: s, y, h => by
    simp only [escs] at h
    cases he : esc c with
    | none => rw [he] at h; simp at h
    | some x =>
      cases hs : escs s with
      | none => rw [he, hs] at h; simp at h
      | some z =>
        rw [he, hs] at h
        simp only [Option.some.injEq] at h
        subst h
        have := esc_len he
        have := escs_len s z hs
        simp; omega
theorem parsed_quote (s : ByteArray) (x : List UInt8) (hz : s.size ≤ 3000) (h : quote s.data.toList = some x) : parsed x = .ok [⟨4, s, 0, 0⟩] ∧ x.length ≤ 6002 := by
  unfold quote at h
  cases hy : escs s.data.toList with
  | none => rw [hy] at h; cases h
  | some y =>
    rw [hy] at h
    simp only [Option.map_some, Option.some.injEq] at h
    have hl := escs_len _ _ hy
    have hsz : s.data.toList.length = s.size := by simp
    have hx : x = 34 :: (y ++ 34 :: []) := by rw [← h]; simp
    subst hx
    have hlen : (34 :: (y ++ 34 :: []) : List UInt8).length ≤ 6002 := by simp; simp at hl; omega
    refine ⟨?_, hlen⟩
    unfold parsed
    rw [if_neg (by omega), value_head 19 (b := 34) (t := y ++ [34]) (by simp [skip, blank]), if_neg (by decide), if_neg (by decide), if_pos rfl, str_escs _ _ _ _ hy]
    simp only [skip, List.dropWhile_nil, List.nil_append]
    rw [if_pos (by simp)]
set_option maxHeartbeats 8000000 in
set_option maxRecDepth 100000 in
theorem textBack_calls (W : World) (s : ByteArray) (hz : s.size ≤ 140737488351232) : Calls Tryd.prog 4 #[.string s] W fun e W' => e = .returned (.bool true) ∧ Below W.heap.size W W' := by
  by_cases hbig : 3000 < s.size
  · have d1 : decide ((3000 : Int) < (s.size : Int)) = true := by simp; omega
    go_enter Tryd.func4, Tryd.ntmps4
    go_wp2_with fail
    go_ret
    exact ⟨rfl, Below.refl _ _⟩
  · have d1 : decide ((3000 : Int) < (s.size : Int)) = false := by simp; omega
    have CQ := Lib.hid (quote_calls W s (by omega))
    cases hq : quote s.data.toList with
    | none =>
      rw [hq] at CQ
      go_enter Tryd.func4, Tryd.ntmps4
      go_wp2_with (first | (go_at_call 8; refine CQ.out.mono ?_; rintro e1 W1 ⟨rfl, hb⟩; have E1 := Lib.hid hb; clear hb; unfold quoteV) | (go_at_call 12; refine (parses_calls _).mono ?_; rintro e1 W2 ⟨rfl, hb⟩; have E2 := Lib.hid (E1.out.trans (hb.mono E1.out.size)); clear hb))
      go_ret
      exact ⟨rfl, E2.out⟩
    | some x =>
      rw [hq] at CQ
      obtain ⟨hp, hxl⟩ := parsed_quote s x (by omega) hq
      obtain ⟨X, hX⟩ : ∃ X : ByteArray, (⟨x.toArray⟩ : ByteArray) = X := ⟨_, rfl⟩
      have hXs : X.size = x.length := by rw [← hX]; rfl
      have hXp : parsed X.data.toList = .ok [⟨4, s, 0, 0⟩] := by rw [← hX]; exact hp
      rw [show quoteV (some x) = .tuple #[.string X, .bool true] by rw [← hX]; rfl] at CQ
      have HP := Lib.hid hXp
      have HS := Lib.hid (show X.size ≤ 4611686018427387904 by omega)
      clear hp hXp hX hXs hxl hq hz hbig
      have kb := fun W => conv_bytes W X
      go_enter Tryd.func4, Tryd.ntmps4
      go_wp2_with (first | (go_at_call 8; refine CQ.out.mono ?_; rintro e1 W1 ⟨rfl, hb⟩; have E1 := Lib.hid hb; clear hb) | (go_at_call 13; refine (parse_str _ X _ HS.out).mono ?_; intro e1 W2 hR; obtain ⟨g2, cap2, rfl, ho, hg, hb1, hbg⟩ := hR.okn HP.out (n := 0) rfl; have O2 := Lib.hid (Ex.lone W2 g2 _ ho hg); have E2 := Lib.hid (E1.out.trans (((bytes_below W1 X).trans (hb1.mono (by rw [Lib.bytesWorld_size]; omega))).mono E1.out.size)); clear hR ho hg hb1 hbg) | (go_at_call 12; refine (parses_calls _).mono ?_; rintro e1 W3 ⟨rfl, hb⟩; have O3 := Lib.hid (O2.out.below hb); have E3 := Lib.hid ((E2.out.alloc E2.out.size _).trans (hb.mono (by rw [World.size_alloc]; have := E2.out.size; omega))); obtain ⟨k0, k1⟩ := O3.out.reads; clear hb) | (go_at_call 14; refine (same_n _ [⟨4, s, 0, 0⟩] 1 g2 W3.heap.size cap2 1 rfl (O3.out.r1.below ((Below.refl _ W3).alloc (Nat.le_refl _) _) O3.out.l1) (row_new W3 _ _ rfl) (by simp)).mono ?_; rintro e1 W4 ⟨rfl, n4, hn4⟩; have E4 : Hid (Below W.heap.size W W4) := Lib.hid (by rw [hn4]; exact belN (E3.out.alloc E3.out.size _) _); clear hn4))
      go_ret
      exact ⟨rfl, E4.out⟩
end Go.Proofs.YtkcfigfhbeohfaaDoor.Tp
