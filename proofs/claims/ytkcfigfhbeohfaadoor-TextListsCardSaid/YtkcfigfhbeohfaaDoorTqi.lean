/- TextLists. -/
import Derived.Test.YtkcfigfhbeohfaaDoorTqf
import Derived.Test.YtkcfigfhbeohfaaDoorTqg
namespace Go.Proofs.YtkcfigfhbeohfaaDoor.Tp
open Go Go.RowKit Go.Maps Go.Proofs.YtkcfigfhbeohfaaDoorW.PrintWords
section
variable {ops : Array Oper} {rest : List Oper} {o : Oper} {a : Act} {Q : Exit → Act → World → Prop}
/-- A row of nodes appended to one's own. -/
theorem append_nodes {w0 W : World} (base : Nat) (hgd : o.guard = none) (s x : Operand) (ho : o.op = .call { callee := .builtin .append, args := #[s, x], argTypes := #[28, 28] })
    (v : Value) (n : Nat) (os ns : List Nd) (g m c : Nat) (hs : a.eval s = v) (hx : a.eval x = .slice (some ⟨g, 0, none⟩) m c) (hm : ns.length = m) (hr : Row W g ns)
    (HO : W.ownsRow base 38 4 v n (encs os)) (HB : Below base w0 W) (hbase : base ≤ W.heap.size) (hl : n + m ≤ 4294967296) (k : Nat) (hk : n + m = k)
    (h : ∀ v1 w1, w1.ownsRow base 38 4 v1 k (encs (os ++ ns)) → Below base w0 w1 → wpList Tryd.prog ops Q rest (a.put o.dst v1) w1) :
    wpList Tryd.prog ops Q (o :: rest) a W := by
  subst hk
  obtain ⟨i0, hi, hzz⟩ := Option.map_eq_some_iff.1 info_node
  simp only [Prod.mk.injEq] at hzz
  obtain ⟨hz0, hz1, hz2⟩ := hzz
  have hone : ∀ u ∈ encs ns, u.oneCell' = true := by
    intro u hu
    unfold encs at hu
    obtain ⟨nd, _, h2⟩ := List.mem_flatMap.1 hu
    simp [cellsN] at h2
    rcases h2 with rfl | rfl | rfl | rfl <;> rfl
  refine wpList_append_own_at W hgd s x 28 ho base 38 i0 (.agg #[.int .i64 0, .string ⟨#[]⟩, .int .i64 0, .int .i64 0]) 4 40 Tryd.underlying28 hi hz0 hz1 hz2 rfl (by decide) v n (encs os) hs HO ⟨g, 0, none⟩ m c (encs ns) hx (by rw [encs_len, hm])
    (fun j u hj => ?_) hone (by simp only [maxLen]; omega) (by omega) hbase ?_
  · have hj' : j < ns.length * 4 := by
      have := (List.getElem?_eq_some_iff.1 hj).1
      rwa [encs_len] at this
    have := hr j hj'
    rw [hj] at this
    unfold Addr.add
    split
    · rename_i h0; subst h0; exact this
    · rw [Nat.zero_add]; exact this
  · intro v1 w1 hown hg _ _
    refine h v1 w1 ?_ (HB.grown hg hbase (own_base HO))
    rw [show encs (os ++ ns) = encs os ++ encs ns by simp [encs]]
    exact hown
end
theorem parsed_len {l : List UInt8} {o : List Nd} (h : parsed l = .ok o) : o.length ≤ l.length := by
  obtain ⟨r, h1, _⟩ := parsed_ok h
  have := value_len _ _ _ _ h1
  omega
theorem own_row {W : World} {base n : Nat} {v : Value} {o : List Nd} (h : W.ownsRow base 38 4 v n (encs o)) (hn : o.length = n) (h0 : 0 < n) : ∃ g cap, v = .slice (some ⟨g, 0, none⟩) n cap ∧ Row W g o ∧ g < W.heap.size := by
  rcases h.2 with ⟨_, h4⟩ | ⟨g, cap, cur, h4, _, h6, _, _, h9, h10⟩
  · omega
  · refine ⟨g, cap, h4, fun i hi => ?_, blk_lt h6⟩
    rw [Lib.cell_of_heap h6, ← h10, List.getElem?_take_of_lt (by omega), Array.getElem?_toList]
theorem PRes.okv {s : ByteArray} {W W' : World} {r : Ending} {o : List Nd} (hx : parsed s.data.toList = .ok o) {n : Nat} (hn : o.length = n) (h0 : 0 < n) (h : PRes s W r W') : ∃ g cap, r = .returned (.tuple #[.slice (some ⟨g, 0, none⟩) n cap, .agg #[.int .i64 0, .int .i64 0]]) ∧ Row W' g o ∧ g < W'.heap.size ∧ Below W.heap.size W W' := by
  obtain ⟨a, cap, h1, h2, h3⟩ := h.ok hx
  rw [hn] at h1 h2
  obtain ⟨g, cap', e, h4, h5⟩ := own_row h2 hn h0
  injection e with e1 _ e2
  subst e1; subst e2
  exact ⟨g, cap, h1, h4, h5, h3⟩
theorem parsed_code {l : List UInt8} {e : Int × Int} (h : parsed l = .error e) : e.1 ≠ 0 := by
  unfold parsed at h
  split at h
  · cases h; simp
  · split at h
    · rename_i c p hv
      have := value_code _ _ _ hv
      cases h; exact this
    · split at h
      · split at h
        · cases h
        · cases h; simp
      · cases h; simp [odd]
theorem parsed_ne {l : List UInt8} {o : List Nd} (h : parsed l = .ok o) : 0 < o.length := by
  obtain ⟨r, h1, _⟩ := parsed_ok h
  have := value_ne h1
  cases o with
  | nil => exact absurd rfl this
  | cons => simp
theorem parsed_lists {a b : List UInt8} {o1 o2 : List Nd} (ha : parsed a = .ok o1) (hb : parsed b = .ok o2) (la : a.length ≤ 3000) (lb : b.length ≤ 3000) :
    parsed (91 :: (a ++ 44 :: (b ++ [93]))) = .ok (o1 ++ o2 ++ [⟨5, ⟨#[]⟩, 0, 2⟩]) ∨ (∃ p, parsed (91 :: (a ++ 44 :: (b ++ [93]))) = .error (12, p)) ∨ (∃ p, parsed (91 :: (a ++ 44 :: (b ++ [93]))) = .error (2, p)) := by
  obtain ⟨r1, h1, h2⟩ := parsed_ok ha
  obtain ⟨r2, h3, h4⟩ := parsed_ok hb
  have hl : ¬ 20000 < (91 :: (a ++ 44 :: (b ++ [93]))).length := by simp; omega
  unfold parsed
  rw [if_neg hl]
  rcases lists h1 h2 h3 h4 with h5 | ⟨p, h5⟩
  · rw [h5]
    simp only [skip, List.dropWhile_nil]
    split
    · exact .inl rfl
    · exact .inr (.inr ⟨_, rfl⟩)
  · rw [h5]
    exact .inr (.inl ⟨_, rfl⟩)
set_option maxHeartbeats 8000000 in
set_option maxRecDepth 100000 in
theorem textLists_calls (W : World) (A : Option Addr) (c : Nat) (s : ByteArray) (_hc : s.size ≤ c) (h : By W A s) (A2 : Option Addr) (c2 : Nat) (s2 : ByteArray) (_hc2 : s2.size ≤ c2) (h2 : By W A2 s2) :
    Calls Tryd.prog 5 #[.slice A s.size c, .slice A2 s2.size c2] W fun e W' => e = .returned (.bool true) ∧ Below W.heap.size W W' := by
  have H1 := Lib.hid h
  have H2 := Lib.hid h2
  clear h h2
  by_cases hbig : 3000 < s.size
  · have d1 : decide ((3000 : Int) < (s.size : Int)) = true := by simp; omega
    go_enter Tryd.func5, Tryd.ntmps5
    go_wp2_with fail
    go_ret
    exact ⟨rfl, Below.refl _ _⟩
  · have d1 : decide ((3000 : Int) < (s.size : Int)) = false := by simp; omega
    by_cases hbig2 : 3000 < s2.size
    · have d2 : decide ((3000 : Int) < (s2.size : Int)) = true := by simp; omega
      go_enter Tryd.func5, Tryd.ntmps5
      go_wp2_with fail
      go_ret
      exact ⟨rfl, Below.refl _ _⟩
    · have d2 : decide ((3000 : Int) < (s2.size : Int)) = false := by simp; omega
      have hs1 : s.data.toList.length = s.size := by simp
      have hs2 : s2.data.toList.length = s2.size := by simp
      have CP := Lib.hid (parse_by W A c s H1.out (by omega))
      have CP2 : Hid (∀ W', Below W.heap.size W W' → Calls Tryd.prog 13 #[.slice A2 s2.size c2] W' (PRes s2 W')) := Lib.hid (fun W' hb => parse_by W' A2 c2 s2 (H2.out.below (Nat.le_refl _) hb) (by omega))
      cases p1 : parsed s.data.toList with
      | error e =>
        obtain ⟨ec, eq⟩ := e
        have P1 := Lib.hid p1
        have f1 : (ec != 0) = true := by have := parsed_code p1; simpa using this
        clear p1 hbig hbig2 hs1 hs2
        go_enter Tryd.func5, Tryd.ntmps5
        go_wp2_with (first | (go_at_call 13; with_reducible refine CP.out.mono ?_; intro e1 W1 hR; obtain ⟨rfl, hb1⟩ := hR.err P1.out; have E1 := Lib.hid hb1; have F1 := Lib.hid (blk_new W1 (.cells #[.int .i64 ec, .int .i64 eq] 31)); clear hR hb1) | (go_at_call 13; with_reducible refine (CP2.out _ (E1.out.alloc E1.out.size _)).mono ?_; intro e1 W2 hR; obtain ⟨v2, x2, q2, rfl, hb2, _⟩ := hR.any; have E2 := Lib.hid ((E1.out.alloc E1.out.size _).trans (hb2.mono (by rw [World.size_alloc]; have := E1.out.size; omega))); have k0 : ∀ ob, (W2.alloc ob).cell? ⟨W1.heap.size, 0, none⟩ = some (.int .i64 ec) := (fun ob => (blk_cell (blk_alloc (blk_below F1.out hb2) ob) 0).trans rfl); clear hR hb2) | (go_at_call 12; refine (parses_calls _).mono ?_; rintro e1 W3 ⟨rfl, hb⟩; have E3 := Lib.hid ((E2.out.alloc E2.out.size _).trans (hb.mono (by rw [World.size_alloc]; have := E2.out.size; omega))); clear hb))
        go_ret
        exact ⟨rfl, E3.out⟩
      | ok o1 =>
        have P1 := Lib.hid p1
        obtain ⟨n1, hn1⟩ : ∃ n1, o1.length = n1 := ⟨_, rfl⟩
        have L1 := Lib.hid (show n1 ≤ 3000 by have := parsed_len p1; omega)
        have Z1 := Lib.hid (show 0 < n1 by rw [← hn1]; exact parsed_ne p1)
        cases p2 : parsed s2.data.toList with
        | error e =>
          obtain ⟨ec, eq⟩ := e
          have P2 := Lib.hid p2
          have f1 : (ec != 0) = true := by have := parsed_code p2; simpa using this
          have HN1 := Lib.hid hn1
          clear p1 p2 hbig hbig2 hs1 hs2 hn1
          go_enter Tryd.func5, Tryd.ntmps5
          go_wp2_with (first | (go_at_call 13; with_reducible refine CP.out.mono ?_; intro e1 W1 hR; obtain ⟨g1, cap1, rfl, hr1, hg1, hb1⟩ := hR.okv P1.out HN1.out Z1.out; have R1 := Lib.hid hr1; have G1 := Lib.hid hg1; have E1 := Lib.hid hb1; have F1 := Lib.hid (blk_new W1 (.cells #[.int .i64 0, .int .i64 0] 31)); clear hR hb1 hr1 hg1) | (go_at_call 13; with_reducible refine (CP2.out _ (E1.out.alloc E1.out.size _)).mono ?_; intro e1 W2 hR; obtain ⟨rfl, hb2⟩ := hR.err P2.out; have E2 := Lib.hid ((E1.out.alloc E1.out.size _).trans (hb2.mono (by rw [World.size_alloc]; have := E1.out.size; omega))); have k0 : ∀ ob, (W2.alloc ob).cell? ⟨W1.heap.size, 0, none⟩ = some (.int .i64 0) := (fun ob => (blk_cell (blk_alloc (blk_below F1.out hb2) ob) 0).trans rfl); clear hR hb2) | (go_at_call 12; refine (parses_calls _).mono ?_; rintro e1 W3 ⟨rfl, hb⟩; have E3 := Lib.hid ((E2.out.alloc E2.out.size _).trans (hb.mono (by rw [World.size_alloc]; have := E2.out.size; omega))); clear hb))
          go_ret
          exact ⟨rfl, E3.out⟩
        | ok o2 =>
          have P2 := Lib.hid p2
          obtain ⟨n2, hn2⟩ : ∃ n2, o2.length = n2 := ⟨_, rfl⟩
          have L2 := Lib.hid (show n2 ≤ 3000 by have := parsed_len p2; omega)
          have Z2 := Lib.hid (show 0 < n2 by rw [← hn2]; exact parsed_ne p2)
          have HPL := Lib.hid (parsed_lists p1 p2 (by omega) (by omega))
          have HN1 := Lib.hid hn1
          have HN2 := Lib.hid hn2
          have kb := fun W X => conv_bytes W X
          have m1 : ¬ 9223372036854775807 < 1 + s.size := by omega
          have m2 : ¬ 9223372036854775807 < 1 + s.size + 1 := by omega
          have m3 : ¬ 9223372036854775807 < 1 + s.size + 1 + s2.size := by omega
          have m4 : ¬ 9223372036854775807 < 1 + s.size + 1 + s2.size + 1 := by omega
          obtain ⟨X, hX⟩ : ∃ X : ByteArray, (⟨#[91]⟩ ++ s ++ ⟨#[44]⟩ ++ s2 ++ ⟨#[93]⟩ : ByteArray) = X := ⟨_, rfl⟩
          have hXl : X.data.toList = 91 :: (s.data.toList ++ 44 :: (s2.data.toList ++ [93])) := by
            rw [← hX]; simp only [ByteArray.data_append, Array.toList_append]; simp
          have hXz : X.size ≤ 6003 := by
            have e := congrArg List.length hXl
            simp only [List.length_cons, List.length_append, List.length_nil, hs1, hs2] at e
            have : X.data.toList.length = X.size := by simp
            omega
          rw [← hXl] at HPL
          have CT : Hid (∀ (W' : World) (cap : Nat) (ob : Obj), Calls Tryd.prog 13 #[.slice (some ⟨W'.heap.size + 1, 0, none⟩) X.size cap] (Lib.bytesWorld (W'.alloc ob) 5 X) (PRes X (Lib.bytesWorld (W'.alloc ob) 5 X))) := Lib.hid (fun W' cap ob => by
            have := parse_str (W'.alloc ob) X cap (by omega)
            rw [World.size_alloc] at this
            exact this)
          clear hXl hXz
          clear p1 p2 hbig hbig2 hs1 hs2 hn1 hn2
          obtain ⟨mm, hmm⟩ : ∃ mm, n1 + n2 = mm := ⟨_, rfl⟩
          have HM := Lib.hid hmm
          clear hmm
          rcases HPL.out with px | ⟨pp, px⟩ | ⟨pp, px⟩
          · have PX := Lib.hid px
            have HK := Lib.hid (show (o1 ++ o2 ++ [(⟨5, ⟨#[]⟩, 0, 2⟩ : Nd)]).length = mm + 1 by have := HN1.out; have := HN2.out; have := HM.out; simp; omega)
            clear px
            go_enter Tryd.func5, Tryd.ntmps5
            go_wp2_with (first | (go_at_call 13; with_reducible refine CP.out.mono ?_; intro e1 W1 hR; obtain ⟨g1, cap1, rfl, hr1, hg1, hb1⟩ := hR.okv P1.out HN1.out Z1.out; have R1 := Lib.hid hr1; have G1 := Lib.hid hg1; have E1 := Lib.hid hb1; have F1 := Lib.hid (blk_new W1 (.cells #[.int .i64 0, .int .i64 0] 31)); clear hR hb1 hr1 hg1) | (go_at_call 13; with_reducible refine (CP2.out _ (E1.out.alloc E1.out.size _)).mono ?_; intro e1 W2 hR; obtain ⟨g2, cap2, rfl, hr2, hg2, hb2⟩ := hR.okv P2.out HN2.out Z2.out; have R2 := Lib.hid hr2; have G2 := Lib.hid hg2; have E2 := Lib.hid ((E1.out.alloc E1.out.size _).trans (hb2.mono (by rw [World.size_alloc]; have := E1.out.size; omega))); have Q1 := Lib.hid ((R1.out.below ((Below.refl _ W1).alloc (Nat.le_refl _) _) G1.out).below hb2 (by rw [World.size_alloc]; have := G1.out; omega)); have QG := Lib.hid (Nat.lt_of_lt_of_le G1.out (Nat.le_trans (by rw [World.size_alloc]; omega) hb2.size)); have k0 : ∀ ob, (W2.alloc ob).cell? ⟨W1.heap.size, 0, none⟩ = some (.int .i64 0) := (fun ob => (blk_cell (blk_alloc (blk_below F1.out hb2) ob) 0).trans rfl); have cv1 := (fun ob => (H1.out.below (Nat.le_refl _) (E2.out.alloc E2.out.size ob)).conv c); have cv2 := (fun ob => (H2.out.below (Nat.le_refl _) (E2.out.alloc E2.out.size ob)).conv c2); clear hR hb2 hr2 hg2) | (go_at_call 13; with_reducible refine (CT.out _ _ _).mono ?_; intro e1 W3 hR; obtain ⟨g3, cap3, rfl, hr3, hg3, hb3⟩ := hR.okv PX.out HK.out (Nat.succ_pos _); have R3 := Lib.hid hr3; have G3 := Lib.hid hg3; have E3 := Lib.hid (((E2.out.alloc E2.out.size (.cells #[.int .i64 0, .int .i64 0] 31)).trans ((bytes_below _ X).mono (by rw [World.size_alloc]; have := E2.out.size; omega))).trans (hb3.mono (by rw [Lib.bytesWorld_size, World.size_alloc]; have := E2.out.size; omega))); have B23 := Lib.hid ((((Below.refl _ W2).alloc (Nat.le_refl _) (.cells #[.int .i64 0, .int .i64 0] 31)).trans ((bytes_below _ X).mono (by rw [World.size_alloc]; omega))).trans (hb3.mono (by rw [Lib.bytesWorld_size, World.size_alloc]; omega))); have A1 := Lib.hid ((Q1.out.below B23.out QG.out).below ((Below.refl _ W3).alloc (Nat.le_refl _) (.cells #[.int .i64 0, .int .i64 0] 31)) (Nat.lt_of_lt_of_le QG.out B23.out.size)); have A2' := Lib.hid ((R2.out.below B23.out G2.out).below ((Below.refl _ W3).alloc (Nat.le_refl _) (.cells #[.int .i64 0, .int .i64 0] 31)) (Nat.lt_of_lt_of_le G2.out B23.out.size)); have A3 := Lib.hid (R3.out.below ((Below.refl _ W3).alloc (Nat.le_refl _) (.cells #[.int .i64 0, .int .i64 0] 31)) G3.out); have LS := Lib.hid (show g1 < W3.heap.size + 1 ∧ g2 < W3.heap.size + 1 ∧ g3 < W3.heap.size + 1 by have := B23.out.size; have := QG.out; have := G2.out; have := G3.out; omega); clear hR hr3 hg3 hb3) | (at_builtin; refine append_nodes (w0 := (W3.alloc (.cells #[.int .i64 0, .int .i64 0] 31))) ((W3.alloc (.cells #[.int .i64 0, .int .i64 0] 31)).heap.size) rfl (.tmp 61) (.tmp 62) rfl (.slice none 0 0) 0 [] o1 g1 n1 cap1 rfl rfl HN1.out A1.out (own_nil _ _ _ _) (Below.refl _ _) (Nat.le_refl _) ?hl n1 (Nat.zero_add _) ?_; (case hl => have := L1.out; omega); intro v5 w5 ho hb; obtain ⟨a5, cap5, rfl⟩ := own_slice ho; have O5 : Hid (w5.ownsRow ((W3.alloc (.cells #[.int .i64 0, .int .i64 0] 31)).heap.size) 38 4 (.slice a5 n1 cap5) n1 (encs o1)) := Lib.hid ho; have B5 := Lib.hid hb; clear ho hb) | (at_builtin; refine append_nodes (w0 := (W3.alloc (.cells #[.int .i64 0, .int .i64 0] 31))) ((W3.alloc (.cells #[.int .i64 0, .int .i64 0] 31)).heap.size) rfl (.tmp 64) (.tmp 65) rfl (.slice a5 n1 cap5) n1 o1 o2 g2 n2 cap2 rfl rfl HN2.out (A2'.out.below B5.out (by rw [World.size_alloc]; exact LS.out.2.1)) O5.out B5.out B5.out.size ?hl mm HM.out ?_; (case hl => have := L1.out; have := L2.out; omega); intro v6 w6 ho hb; obtain ⟨a6, cap6, rfl⟩ := own_slice ho; have O6 := Lib.hid ho; have B6 := Lib.hid hb; clear ho hb) | (at_builtin; refine append_nodes (w0 := (W3.alloc (.cells #[.int .i64 0, .int .i64 0] 31))) ((W3.alloc (.cells #[.int .i64 0, .int .i64 0] 31)).heap.size) rfl (.tmp 67) (.tmp 69) rfl (.slice a6 mm cap6) mm (o1 ++ o2) [⟨5, ⟨#[]⟩, 0, 2⟩] w6.heap.size 1 1 rfl rfl rfl (row_new w6 _ _ rfl) (O6.out.alloc _) (B6.out.alloc B6.out.size _) (by rw [World.size_alloc w6]; have := B6.out.size; omega) ?hl (mm + 1) rfl ?_; (case hl => have := L1.out; have := L2.out; have := HM.out; omega); intro v7 w7 ho hb; obtain ⟨g7, cap7, rfl, hr7, hg7⟩ := own_row ho HK.out (Nat.succ_pos _); have R7 := Lib.hid hr7; have G7 := Lib.hid hg7; have B7 := Lib.hid hb; have F7 := Lib.hid (blk_below (blk_new W3 (.cells #[.int .i64 0, .int .i64 0] 31)) hb); clear ho hb hr7 hg7) | (go_at_call 12; refine (parses_calls _).mono ?_; rintro e1 W8 ⟨rfl, hb⟩; have R8 := Lib.hid (R7.out.below hb G7.out); have A8 := Lib.hid ((A3.out.below B7.out (by rw [World.size_alloc]; exact LS.out.2.2)).below hb (Nat.lt_of_lt_of_le (show g3 < (W3.alloc (.cells #[.int .i64 0, .int .i64 0] 31)).heap.size by rw [World.size_alloc]; exact LS.out.2.2) B7.out.size)); have E8 := Lib.hid (((E3.out.alloc E3.out.size _).trans (B7.out.mono (by rw [World.size_alloc]; have := E3.out.size; omega))).trans (hb.mono (Nat.le_trans (by rw [World.size_alloc]; have := E3.out.size; omega) B7.out.size))); have k8 := (blk_cell (blk_below F7.out hb) 0).trans rfl; clear hb) | (go_at_call 14; with_reducible refine (same_n _ _ (mm + 1) g3 g7 cap3 cap7 HK.out A8.out R8.out ?hl).mono ?_; (case hl => have := HK.out; have := L1.out; have := L2.out; have := HM.out; omega); rintro e1 W9 ⟨rfl, n9, hn9⟩; have E9 : Hid (Below W.heap.size W W9) := Lib.hid (by rw [hn9]; exact belN E8.out _); clear hn9))
            go_ret
            exact ⟨rfl, E9.out⟩
          · have PX := Lib.hid px
            clear px
            go_enter Tryd.func5, Tryd.ntmps5
            go_wp2_with (first | (go_at_call 13; with_reducible refine CP.out.mono ?_; intro e1 W1 hR; obtain ⟨g1, cap1, rfl, hr1, hg1, hb1⟩ := hR.okv P1.out HN1.out Z1.out; have R1 := Lib.hid hr1; have G1 := Lib.hid hg1; have E1 := Lib.hid hb1; have F1 := Lib.hid (blk_new W1 (.cells #[.int .i64 0, .int .i64 0] 31)); clear hR hb1 hr1 hg1) | (go_at_call 13; with_reducible refine (CP2.out _ (E1.out.alloc E1.out.size _)).mono ?_; intro e1 W2 hR; obtain ⟨g2, cap2, rfl, hr2, hg2, hb2⟩ := hR.okv P2.out HN2.out Z2.out; have R2 := Lib.hid hr2; have G2 := Lib.hid hg2; have E2 := Lib.hid ((E1.out.alloc E1.out.size _).trans (hb2.mono (by rw [World.size_alloc]; have := E1.out.size; omega))); have Q1 := Lib.hid ((R1.out.below ((Below.refl _ W1).alloc (Nat.le_refl _) _) G1.out).below hb2 (by rw [World.size_alloc]; have := G1.out; omega)); have k0 : ∀ ob, (W2.alloc ob).cell? ⟨W1.heap.size, 0, none⟩ = some (.int .i64 0) := (fun ob => (blk_cell (blk_alloc (blk_below F1.out hb2) ob) 0).trans rfl); have cv1 := (fun ob => (H1.out.below (Nat.le_refl _) (E2.out.alloc E2.out.size ob)).conv c); have cv2 := (fun ob => (H2.out.below (Nat.le_refl _) (E2.out.alloc E2.out.size ob)).conv c2); clear hR hb2 hr2 hg2) | (go_at_call 13; with_reducible refine (CT.out _ _ _).mono ?_; intro e1 W3 hR; obtain ⟨rfl, hb3⟩ := hR.err PX.out; have E3 := Lib.hid (((E2.out.alloc E2.out.size (.cells #[.int .i64 0, .int .i64 0] 31)).trans ((bytes_below _ X).mono (by rw [World.size_alloc]; have := E2.out.size; omega))).trans (hb3.mono (by rw [Lib.bytesWorld_size, World.size_alloc]; have := E2.out.size; omega))); clear hR hb3) | (go_at_call 12; refine (parses_calls _).mono ?_; rintro e1 W4 ⟨rfl, hb⟩; have E4 := Lib.hid ((E3.out.alloc E3.out.size _).trans (hb.mono (by rw [World.size_alloc]; have := E3.out.size; omega))); clear hb))
            go_ret
            exact ⟨rfl, E4.out⟩
          · have PX := Lib.hid px
            clear px
            go_enter Tryd.func5, Tryd.ntmps5
            go_wp2_with (first | (go_at_call 13; with_reducible refine CP.out.mono ?_; intro e1 W1 hR; obtain ⟨g1, cap1, rfl, hr1, hg1, hb1⟩ := hR.okv P1.out HN1.out Z1.out; have R1 := Lib.hid hr1; have G1 := Lib.hid hg1; have E1 := Lib.hid hb1; have F1 := Lib.hid (blk_new W1 (.cells #[.int .i64 0, .int .i64 0] 31)); clear hR hb1 hr1 hg1) | (go_at_call 13; with_reducible refine (CP2.out _ (E1.out.alloc E1.out.size _)).mono ?_; intro e1 W2 hR; obtain ⟨g2, cap2, rfl, hr2, hg2, hb2⟩ := hR.okv P2.out HN2.out Z2.out; have R2 := Lib.hid hr2; have G2 := Lib.hid hg2; have E2 := Lib.hid ((E1.out.alloc E1.out.size _).trans (hb2.mono (by rw [World.size_alloc]; have := E1.out.size; omega))); have Q1 := Lib.hid ((R1.out.below ((Below.refl _ W1).alloc (Nat.le_refl _) _) G1.out).below hb2 (by rw [World.size_alloc]; have := G1.out; omega)); have k0 : ∀ ob, (W2.alloc ob).cell? ⟨W1.heap.size, 0, none⟩ = some (.int .i64 0) := (fun ob => (blk_cell (blk_alloc (blk_below F1.out hb2) ob) 0).trans rfl); have cv1 := (fun ob => (H1.out.below (Nat.le_refl _) (E2.out.alloc E2.out.size ob)).conv c); have cv2 := (fun ob => (H2.out.below (Nat.le_refl _) (E2.out.alloc E2.out.size ob)).conv c2); clear hR hb2 hr2 hg2) | (go_at_call 13; with_reducible refine (CT.out _ _ _).mono ?_; intro e1 W3 hR; obtain ⟨rfl, hb3⟩ := hR.err PX.out; have E3 := Lib.hid (((E2.out.alloc E2.out.size (.cells #[.int .i64 0, .int .i64 0] 31)).trans ((bytes_below _ X).mono (by rw [World.size_alloc]; have := E2.out.size; omega))).trans (hb3.mono (by rw [Lib.bytesWorld_size, World.size_alloc]; have := E2.out.size; omega))); clear hR hb3) | (go_at_call 12; refine (parses_calls _).mono ?_; rintro e1 W4 ⟨rfl, hb⟩; have E4 := Lib.hid ((E3.out.alloc E3.out.size _).trans (hb.mono (by rw [World.size_alloc]; have := E3.out.size; omega))); clear hb))
            go_ret
            exact ⟨rfl, E4.out⟩
end Go.Proofs.YtkcfigfhbeohfaaDoor.Tp
