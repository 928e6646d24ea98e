/- The keys of an object in memory; the scanner's member. -/
import Derived.Test.YtkcfigfhbeohfaaGreatDoorTpc
import Derived.Test.YtkcfigfhbeohfaaGreatDoorTps
import Derived.Maps.OwnOps
import Derived.Maps.OwnSet
namespace Go.Proofs.YtkcfigfhbeohfaaGreatDoor.Tp
open Go Go.RowKit Go.Maps Go.ChangeMaps Go.WideMaps Go.Proofs.YtkcfigfhbeohfaaGreatDoorW.PrintWords

theorem law : Keyed Tryz.prog 9 := string_keyed Tryz.underlying9
theorem zeroB (w : World) : (zeroValue 4).run Tryz.prog w = .ok (.bool false) w := by kernel_rfl
/-- Block mb is a map of just these keys. -/
def Keys (W : World) (mb : Nat) (ks : List (List UInt8)) : Prop :=
  ∃ D : DataW Unit, W.ownsMap Tryz.prog 9 (plainElem Tryz.prog 4) mb ks.length D ∧ ∀ key, D.atKey (.string key) (.lit (.bool false)) = .lit (.bool (decide (key ∈ ks)))
theorem Keys.made (w : World) : Keys (w.alloc (.map #[] 0)) w.heap.size [] := ⟨.map [], World.ownsMap_made _ _ _ _, fun _ => rfl⟩
theorem Keys.same {W W' : World} {mb : Nat} {ks : List (List UInt8)} (h : Keys W mb ks) (hb : W'.heap[mb]? = W.heap[mb]?) : Keys W' mb ks := by
  obtain ⟨D, ⟨es, clock, h1, r⟩, h2⟩ := h
  exact ⟨D, ⟨es, clock, hb.trans h1, r⟩, h2⟩
theorem Keys.lt {W : World} {mb : Nat} {ks : List (List UInt8)} (h : Keys W mb ks) : mb < W.heap.size := by obtain ⟨D, h1, _⟩ := h; exact h1.lt
theorem plainElem_bool_inv {P : Program} {e : TypeId} (he : P.underlying e = some .bool) {v : Value} {z : DataW Unit × List MemPlace} (h : plainElem P e v = some z) : ∃ x, v = .bool x ∧ z = (.lit (.bool x), []) := by
  unfold plainElem at h
  rw [he] at h
  cases v <;> simp at h
  exact ⟨_, rfl, h.symm⟩
theorem Keys.look {W : World} {mb : Nat} {ks : List (List UInt8)} (h : Keys W mb ks) (s : ByteArray) (hs : s.size ≤ maxLen) : (Instr.lookup 56 (.map (some mb)) (.string s) false).run Tryz.prog W = .ok (.bool (decide (s.data.toList ∈ ks))) W := by
  obtain ⟨D, h1, h2⟩ := h
  obtain ⟨v, ps, hrun, hv⟩ := h1.lookup law Tryz.underlying56 (zeroB W) (plainElem_bool Tryz.underlying4 false) (keyOf_string_mk Tryz.underlying9 hs)
  obtain ⟨x, rfl, hx⟩ := plainElem_bool_inv Tryz.underlying4 hv
  simp only [Prod.mk.injEq] at hx
  rw [h2] at hx
  have hx1 : decide (s.data.toList ∈ ks) = x := congrArg (fun d : DataW Unit => match d with | .lit (.bool b) => b | _ => false) hx.1
  rw [hrun, ← hx1]
theorem Keys.put {W : World} {mb : Nat} {ks : List (List UInt8)} (h : Keys W mb ks) (s : ByteArray) (hs : s.size ≤ maxLen) (hn : ks.length < maxLen) :
    ∃ W', (Instr.mapUpdate 56 (.map (some mb)) (.string s) (.bool true)).run Tryz.prog W = .ok () W' ∧ Keys W' mb (ks ++ [s.data.toList]) ∧ W.grownBy W' (some mb) := by
  obtain ⟨D, h1, h2⟩ := h
  have hM := h1.isMap
  obtain ⟨W', hrun, hown, hg⟩ := h1.update law Tryz.underlying56 hn (keyOf_string_mk Tryz.underlying9 hs) (plainElem_bool Tryz.underlying4 true)
  refine ⟨W', hrun, ⟨D.put (.string s.data.toList) (.lit (.bool true)), ?_, fun key => ?_⟩, hg⟩
  · rw [List.length_append]; exact hown
  · by_cases hk : key = s.data.toList
    · subst hk
      rw [atKey_put_same hM (show WideAt.IsKeyLit (.string s.data.toList) from trivial)]
      simp
    · rw [atKey_put_other (fun e => hk (by injection e)), h2]
      simp [hk]
section
variable {P : Program} {ops : Array Oper} {Q : Exit → Act → World → Prop}
theorem lookup_step {W W1 : World} {rest : List Oper} {o : Oper} {a : Act} (hg : o.guard = none) (m x : Operand) (t : TypeId) (hop : o.op = Op.lookup t m x false) {vm vx v : Value} (hm : a.eval m = vm) (hx : a.eval x = vx)
    (hrun : (Instr.lookup t vm vx false).run P W = .ok v W1) (h : wpList P ops Q rest (a.put o.dst v) W1) : wpList P ops Q (o :: rest) a W := by
  refine wpList_plain hg fun K' hK' => ?_
  unfold Oper.wp
  simp [execOp, hop, hm, hx, hrun, Result.andThen]
  exact hK' _ _ h
theorem update_step {W W1 : World} {rest : List Oper} {o : Oper} {a : Act} (hg : o.guard = none) (m x y : Operand) (t : TypeId) (hop : o.op = Op.mapUpdate t m x y) {vm vx vy : Value} (hm : a.eval m = vm) (hx : a.eval x = vx) (hy : a.eval y = vy)
    (hrun : (Instr.mapUpdate t vm vx vy).run P W = .ok () W1) (h : wpList P ops Q rest (a.put o.dst undef) W1) : wpList P ops Q (o :: rest) a W := by
  refine wpList_plain hg fun K' hK' => ?_
  unfold Oper.wp
  simp [execOp, hop, hm, hx, hy, hrun, Result.andThen]
  exact hK' _ _ h
end
section
variable {W : World} {g base : Nat} {s : ByteArray} {p : Nat} {o : List Nd} {c a : Int} {v : Value}
theorem Keys.keep {W' : World} {v' : Value} {X : Nat → Prop} {mb : Nat} {ks : List (List UInt8)} (h : Keys W mb ks) (hS : Sc W g base s p o c a v) (hT : Stp X g W v W' v') (hX : ¬ X mb) : Keys W' mb ks := by
  have hm := h
  obtain ⟨D, ⟨es, clock, h1, _⟩, _⟩ := hm
  exact h.same ((hS.keep hT h1 hX (fun cs t f e => by cases e)).trans h1.symm)
theorem Sc.grown {W' : World} {mb : Nat} (h : Sc W g base s p o c a v) (hg : W.grownBy W' (some mb)) (h1 : g ≠ mb) (h2 : some mb ≠ v.ownBlock) : Sc W' g base s p o c a v :=
  ⟨(hg.block g (blk_lt h.blk) (by simpa using h1)).trans h.blk, own_same h.out (fun k hk => hg.block k (h.own_lt k hk) (fun e => h2 (by rw [hk]; exact e.symm))), h.le, h.ge⟩
theorem stp_grown {W' : World} {mb : Nat} (hg : W.grownBy W' (some mb)) : Stp (fun i => i = mb) g W v W' v :=
  ⟨⟨hg.os, hg.tape, hg.output, hg.size, fun i hi hn => hg.block i hi (fun e => hn (.inr (.inr (by simpa using e))))⟩, fun _ h => .inl h⟩
theorem str_len : ∀ (k : Nat) (r acc o r1 : List UInt8), r.length < k → str r acc = .ok (o, r1) → o.length ≤ acc.length + r.length
  | 0, _, _, _, _, hk, _ => by omega
  | _ + 1, [], _, _, _, _, h => by simp [str] at h
  | k + 1, x :: t, acc, o, r1, hk, h => by
    rw [List.length_cons] at hk ⊢
    unfold str at h
    by_cases h34 : x = 34
    · rw [if_pos h34] at h; cases h; omega
    · rw [if_neg h34] at h
      by_cases h92 : x = 92
      · rw [if_pos h92] at h
        cases t with
        | nil => cases h
        | cons y u =>
          simp only at h
          rw [List.length_cons] at hk ⊢
          by_cases hy : y = 34 ∨ y = 92
          · rw [if_pos hy] at h
            have := str_len k u _ _ _ (by omega) h
            rw [List.length_append] at this; simp at this; omega
          · rw [if_neg hy] at h
            by_cases hn : y = 110
            · rw [if_pos hn] at h
              have := str_len k u _ _ _ (by omega) h
              rw [List.length_append] at this; simp at this; omega
            · rw [if_neg hn] at h; cases h
      · rw [if_neg h92] at h
        by_cases hb : x.toNat < 32 ∨ 126 < x.toNat
        · rw [if_pos hb] at h; cases h
        · rw [if_neg hb] at h
          have := str_len k t _ _ _ (by omega) h
          rw [List.length_append] at this; simp at this; omega
theorem quoted_len {r key r1 : List UInt8} (h : quoted r = .ok (key, r1)) : key.length ≤ r.length := by
  unfold quoted at h
  cases ht : takeB 34 r with
  | error x => rw [ht] at h; cases h
  | ok t =>
    rw [ht] at h
    obtain ⟨c, e, _⟩ := takeB_ext ht
    have := congrArg List.length e
    rw [List.length_append, List.length_cons] at this
    have := str_len _ t [] _ _ (Nat.lt_succ_self _) h
    simp at this; omega
theorem ERes.mk_err {σ : Type} {I : σ → World → Prop} {X : Nat → Prop} {W' W0 : World} {v' v0 : Value} {o2 : List Nd} {q : Nat} {e : Int × Nat} {x : Except (Int × Nat) (List Nd × List UInt8 × σ)} (hx : x = .error e) (h : Sc W' g base s q o2 e.1 ((s.size : Int) - e.2) v') (ht : Stp X g W0 v0 W' v') : ERes I X g base s c a W0 v0 o x (.returned (.bool false)) W' := by
  subst hx; exact ⟨q, o2, v', rfl, h, ht⟩
theorem ERes.mk_ok {σ : Type} {I : σ → World → Prop} {X : Nat → Prop} {W' W0 : World} {v' v0 : Value} {o' : List Nd} {r1 : List UInt8} {st : σ} {x : Except (Int × Nat) (List Nd × List UInt8 × σ)} (hx : x = .ok (o', r1, st)) (h : Sc W' g base s (s.size - r1.length) (o ++ o') c a v') (ht : Stp X g W0 v0 W' v') (hI : I st W') : ERes I X g base s c a W0 v0 o x (.returned (.bool true)) W' := by
  subst hx; exact ⟨v', rfl, h, ht, hI⟩
set_option maxHeartbeats 16000000 in
set_option maxRecDepth 100000 in
theorem member_calls (h : Sc W g base s p o c a v) (hz : s.size ≤ 70368744177664) (mb : Nat) (ks : List (List UInt8)) (hk : Keys W mb ks) (hkl : ks.length ≤ s.size) (dep : Int) (hd0 : 0 ≤ dep) (hd1 : dep ≤ 100) (val : List UInt8 → R (List Nd)) (hvl : ∀ r o r1, val r = .ok (o, r1) → o.length + r1.length ≤ r.length)
    (hV : ∀ W1 v1 q o1, Sc W1 g base s q o1 c a v1 → o1.length + (s.size - q) ≤ 4294967296 → Calls Tryz.prog 8 #[.pointer (some ⟨g, 0, none⟩), .int .i64 (dep + 1)] W1 (Res (fun _ => False) g base s c a W1 v1 o1 (val (rest s q))))
    (hfew : o.length + (s.size - p) ≤ 4294967296) :
    Calls Tryz.prog 28 #[.pointer (some ⟨g, 0, none⟩), .map (some mb), .int .i64 dep] W (ERes (fun ks W' => Keys W' mb ks) (fun i => i = mb) g base s c a W v o (member val ks (rest s p))) := by
  have hp := h.le
  have hz2 : s.size ≤ 4611686018427387904 := by omega
  have CN := Lib.hid (next_calls h (fun _ => False) hz2)
  have hr1 := rest_skip hp
  have hgm : g ≠ mb := by
    intro e
    obtain ⟨D, ⟨es, clock, h1, _⟩, _⟩ := hk
    rw [← e, h.blk] at h1
    cases h1
  have hvm : some mb ≠ v.ownBlock := by
    obtain ⟨D, ⟨es, clock, h1, _⟩, _⟩ := hk
    exact h.apart h1 (fun cs t f e => by cases e)
  have H := Lib.hid h
  have HKS := Lib.hid hk
  have HVL := Lib.hid hvl
  have HV := Lib.hid hV
  have HF := Lib.hid hfew
  have hsl := skip_le (rest s p)
  rw [rest_len] at hsl
  have HSL := Lib.hid hsl
  have hq1s : (s.size : Int) - ((skip (rest s p)).length : Int) = ((s.size - (skip (rest s p)).length : Nat) : Int) := by omega
  obtain ⟨q1, hq1⟩ : ∃ q1, s.size - (skip (rest s p)).length = q1 := ⟨_, rfl⟩
  rw [hq1] at CN hr1 hq1s
  have HQ1 := Lib.hid hq1
  have HQ1S := Lib.hid hq1s
  have CQ := Lib.hid (fun W1 v1 (h1 : Sc W1 g base s q1 o c a v1) => quoted_calls h1 (fun _ => False) hz)
  rw [hr1] at CQ
  obtain ⟨N, hN⟩ : ∃ N, top (skip (rest s p)) = N := ⟨_, rfl⟩
  rw [hN] at CN
  have HR1 := Lib.hid hr1
  clear h hk hvl hV hr1 hN hfew hsl hq1 hq1s hp
  cases hq : quoted (skip (rest s p)) with
  | error x =>
    rw [hq] at CQ
    have HX := Lib.hid (show member val ks (rest s p) = .error x by unfold member; rw [hq])
    clear hq
    go_enter Tryz.func28, Tryz.ntmps28
    go_wp2_with (first | (go_at_call 9; refine CN.out.mono ?_; rintro e1 W1 ⟨rfl, hS, hT⟩; have S1 := Lib.hid hS; have T1 := Lib.hid hT; obtain ⟨d0, d1, d2, d3, d4⟩ := hS.reads; clear hS hT) | (go_at_call 23; refine (CQ.out _ _ S1.out).mono ?_; rintro e1 W2 ⟨q2, rfl, hS, hT⟩; have S2 := Lib.hid hS; have T2 := Lib.hid hT; clear hS hT))
    go_ret
    exact ERes.mk_err HX.out S2.out (stp0 (T1.out.trans T2.out))
  | ok y =>
    obtain ⟨key, r1⟩ := y
    rw [hq] at CQ
    obtain ⟨cq, ecq, _⟩ := quoted_ext hq
    have hlq := congrArg List.length ecq
    rw [List.length_append, List.length_cons] at hlq
    have hr2 := (rest_suffix (s := s) (p := q1) (c := cq ++ [34]) (x := r1) (by have := HQ1.out; omega) (by rw [HR1.out, ecq]; simp)).1
    have hkz : (⟨key.toArray⟩ : ByteArray).size ≤ maxLen := by
      have h1 : (⟨key.toArray⟩ : ByteArray).size = key.length := rfl
      have h2 := quoted_len hq
      have h3 := HSL.out
      unfold maxLen; omega
    have hkn : ks.length < maxLen := by unfold maxLen; omega
    have hlk : (⟨key.toArray⟩ : ByteArray).data.toList = key := rfl
    obtain ⟨KB, hKB⟩ : ∃ KB : ByteArray, (⟨key.toArray⟩ : ByteArray) = KB := ⟨_, rfl⟩
    rw [hKB] at hkz hlk
    have CQ2 : Hid (∀ W1 v1, Sc W1 g base s q1 o c a v1 → Calls Tryz.prog 23 #[.pointer (some ⟨g, 0, none⟩)] W1 fun r W' => r = .returned (.tuple #[.string KB, .bool true]) ∧ Sc W' g base s (s.size - r1.length) o c a v1 ∧ Stp (fun _ => False) g W1 v1 W' v1) := Lib.hid (by rw [← hKB]; exact CQ.out)
    clear CQ
    have CQ := CQ2
    clear CQ2
    obtain ⟨q2, hq2⟩ : ∃ q2, s.size - r1.length = q2 := ⟨_, rfl⟩
    rw [hq2] at CQ hr2
    by_cases hin : key ∈ ks
    · have HX := Lib.hid (show member val ks (rest s p) = .error (13, (skip (rest s p)).length) by unfold member; rw [hq]; simp only; rw [if_pos hin])
      have hdec : decide (KB.data.toList ∈ ks) = true := by rw [hlk]; exact decide_eq_true hin
      clear hq ecq hlq hr2 hin hlk hKB hq2
      go_enter Tryz.func28, Tryz.ntmps28
      go_wp2_with (first | (go_at_call 9; refine CN.out.mono ?_; rintro e1 W1 ⟨rfl, hS, hT⟩; have S1 := Lib.hid hS; have T1 := Lib.hid hT; have K1 := Lib.hid (HKS.out.keep H.out hT (fun f => f)); obtain ⟨d0, d1, d2, d3, d4⟩ := hS.reads; clear hS hT) | (go_at_call 23; refine (CQ.out _ _ S1.out).mono ?_; rintro e1 W2 ⟨rfl, hS, hT⟩; have S2 := Lib.hid hS; have T2 := Lib.hid hT; have K2 := Lib.hid (K1.out.keep S1.out hT (fun f => f)); clear hS hT) | (at_lookup; refine lookup_step (v := .bool true) rfl (.tmp 23) (.tmp 24) 56 rfl rfl rfl (by have hlook := K2.out.look _ hkz; rw [hdec] at hlook; exact hlook) ?_) | (go_at_call 18; refine (stop_calls S2.out (fun _ => False) _ _).mono ?_; rintro e1 W3 ⟨rfl, hS, hT⟩; have S3 := Lib.hid hS; have T3 := Lib.hid hT; clear hS hT))
      go_ret
      exact ERes.mk_err HX.out (by rw [HQ1S.out]; exact S3.out) (stp0 ((T1.out.trans T2.out).trans T3.out))
    · have hdec : decide (KB.data.toList ∈ ks) = false := by rw [hlk]; exact decide_eq_false hin
      have hmem : member val ks (rest s p) = (match takeB 58 r1 with
          | .error x => .error x
          | .ok r2 => match val r2 with
            | .error x => .error x
            | .ok (p, r3) => .ok (p ++ [⟨6, ⟨key.toArray⟩, 0, 1⟩], r3, ks ++ [key])) := by
        unfold member; rw [hq]; simp only; rw [if_neg hin]; rfl
      have HKB := Lib.hid hKB
      have HLK := Lib.hid hlk
      have HL2 := Lib.hid (show q2 ≤ s.size ∧ (s.size - q2) + 1 ≤ s.size - q1 ∧ r1.length = s.size - q2 by have := HQ1.out; have := HSL.out; omega)
      clear hin hq ecq hlq hKB hlk hq2
      cases ht : takeB 58 r1 with
      | error x =>
        rw [ht] at hmem
        have HX := Lib.hid hmem
        have HTK := Lib.hid (show takeB 58 (rest s q2) = .error x by rw [hr2]; exact ht)
        clear hmem ht hr2
        go_enter Tryz.func28, Tryz.ntmps28
        go_wp2_with (first | (go_at_call 9; refine CN.out.mono ?_; rintro e1 W1 ⟨rfl, hS, hT⟩; have S1 := Lib.hid hS; have T1 := Lib.hid hT; have K1 := Lib.hid (HKS.out.keep H.out hT (fun f => f)); obtain ⟨d0, d1, d2, d3, d4⟩ := hS.reads; clear hS hT) | (go_at_call 23; refine (CQ.out _ _ S1.out).mono ?_; rintro e1 W2 ⟨rfl, hS, hT⟩; have S2 := Lib.hid hS; have T2 := Lib.hid hT; have K2 := Lib.hid (K1.out.keep S1.out hT (fun f => f)); clear hS hT) | (at_lookup; refine lookup_step (v := .bool false) rfl (.tmp 23) (.tmp 24) 56 rfl rfl rfl (by have hlook := K2.out.look _ hkz; rw [hdec] at hlook; exact hlook) ?_) | (at_mapUpdate; obtain ⟨W3, hrun, hk3, hg3⟩ := K2.out.put _ hkz hkn; refine update_step rfl (.tmp 29) (.tmp 30) (.const (.bool true)) 56 rfl rfl rfl rfl hrun ?_; have K3 := Lib.hid hk3; have S3 := Lib.hid (S2.out.grown hg3 hgm hvm); have T3 := Lib.hid (stp_grown (g := g) (v := v) hg3); clear hrun hk3 hg3) | (go_at_call 42; refine (take_err S3.out (fun _ => False) hz2 58 (by decide) _ HTK.out).mono ?_; rintro e1 W4 ⟨rfl, ⟨q4, hS⟩, hT⟩; have S4 := Lib.hid hS; have T4 := Lib.hid hT; clear hS hT))
        go_ret
        exact ERes.mk_err HX.out S4.out ((stp0 (T1.out.trans T2.out)).trans (T3.out.trans (stp0 T4.out)))
      | ok t =>
        rw [ht] at hmem
        simp only at hmem
        have HTK := Lib.hid (show takeB 58 (rest s q2) = .ok t by rw [hr2]; exact ht)
        obtain ⟨c2, e2, _⟩ := takeB_ext ht
        have hl2 := congrArg List.length e2
        rw [List.length_append, List.length_cons] at hl2
        have hr3 := (rest_suffix (s := s) (p := q2) (c := c2 ++ [58]) (x := t) HL2.out.1 (by rw [hr2, e2]; simp)).1
        have hfv : o.length + (s.size - (s.size - t.length)) ≤ 4294967296 := by have := HF.out; have := HL2.out; have := HSL.out; have := HQ1.out; omega
        have CV := Lib.hid (fun W1 v1 (h1 : Sc W1 g base s (s.size - t.length) o c a v1) => HV.out W1 v1 _ o h1 hfv)
        rw [hr3] at CV
        have hdw : dep + 1 ≤ 101 := by omega
        cases hv : val t with
        | error x =>
          rw [hv] at CV hmem
          have HX := Lib.hid hmem
          clear hmem ht hr2 e2 hl2 hr3 hv hfv
          go_enter Tryz.func28, Tryz.ntmps28
          go_wp2_with (first | (go_at_call 9; refine CN.out.mono ?_; rintro e1 W1 ⟨rfl, hS, hT⟩; have S1 := Lib.hid hS; have T1 := Lib.hid hT; have K1 := Lib.hid (HKS.out.keep H.out hT (fun f => f)); obtain ⟨d0, d1, d2, d3, d4⟩ := hS.reads; clear hS hT) | (go_at_call 23; refine (CQ.out _ _ S1.out).mono ?_; rintro e1 W2 ⟨rfl, hS, hT⟩; have S2 := Lib.hid hS; have T2 := Lib.hid hT; have K2 := Lib.hid (K1.out.keep S1.out hT (fun f => f)); clear hS hT) | (at_lookup; refine lookup_step (v := .bool false) rfl (.tmp 23) (.tmp 24) 56 rfl rfl rfl (by have hlook := K2.out.look _ hkz; rw [hdec] at hlook; exact hlook) ?_) | (at_mapUpdate; obtain ⟨W3, hrun, hk3, hg3⟩ := K2.out.put _ hkz hkn; refine update_step rfl (.tmp 29) (.tmp 30) (.const (.bool true)) 56 rfl rfl rfl rfl hrun ?_; have K3 := Lib.hid hk3; have S3 := Lib.hid (S2.out.grown hg3 hgm hvm); have T3 := Lib.hid (stp_grown (g := g) (v := v) hg3); clear hrun hk3 hg3) | (go_at_call 42; refine (take_ok S3.out (fun _ => False) hz2 58 _ HTK.out).mono ?_; rintro e1 W4 ⟨rfl, hS, hT⟩; have S4 := Lib.hid hS; have T4 := Lib.hid hT; have K4 := Lib.hid (K3.out.keep S3.out hT (fun f => f)); clear hS hT) | (go_at_call 8; refine (CV.out _ _ S4.out).mono ?_; rintro e1 W5 ⟨q5, o5, v5, rfl, hS, hT⟩; have S5 := Lib.hid hS; have T5 := Lib.hid hT; clear hS hT))
          go_ret
          exact ERes.mk_err HX.out S5.out ((stp0 (T1.out.trans T2.out)).trans (T3.out.trans (stp0 (T4.out.trans T5.out))))
        | ok y =>
          obtain ⟨o3, r3⟩ := y
          rw [hv] at CV hmem
          simp only at hmem
          have HX := Lib.hid hmem
          have HPL := Lib.hid (show (o ++ o3).length ≤ 4294967296 by have := HVL.out _ _ _ hv; have := HL2.out; rw [List.length_append]; omega)
          clear hmem ht hr2 e2 hl2 hr3 hv hfv
          go_enter Tryz.func28, Tryz.ntmps28
          go_wp2_with (first | (go_at_call 9; refine CN.out.mono ?_; rintro e1 W1 ⟨rfl, hS, hT⟩; have S1 := Lib.hid hS; have T1 := Lib.hid hT; have K1 := Lib.hid (HKS.out.keep H.out hT (fun f => f)); obtain ⟨d0, d1, d2, d3, d4⟩ := hS.reads; clear hS hT) | (go_at_call 23; refine (CQ.out _ _ S1.out).mono ?_; rintro e1 W2 ⟨rfl, hS, hT⟩; have S2 := Lib.hid hS; have T2 := Lib.hid hT; have K2 := Lib.hid (K1.out.keep S1.out hT (fun f => f)); clear hS hT) | (at_lookup; refine lookup_step (v := .bool false) rfl (.tmp 23) (.tmp 24) 56 rfl rfl rfl (by have hlook := K2.out.look _ hkz; rw [hdec] at hlook; exact hlook) ?_) | (at_mapUpdate; obtain ⟨W3, hrun, hk3, hg3⟩ := K2.out.put _ hkz hkn; refine update_step rfl (.tmp 29) (.tmp 30) (.const (.bool true)) 56 rfl rfl rfl rfl hrun ?_; have K3 := Lib.hid hk3; have S3 := Lib.hid (S2.out.grown hg3 hgm hvm); have T3 := Lib.hid (stp_grown (g := g) (v := v) hg3); clear hrun hk3 hg3) | (go_at_call 42; refine (take_ok S3.out (fun _ => False) hz2 58 _ HTK.out).mono ?_; rintro e1 W4 ⟨rfl, hS, hT⟩; have S4 := Lib.hid hS; have T4 := Lib.hid hT; have K4 := Lib.hid (K3.out.keep S3.out hT (fun f => f)); clear hS hT) | (go_at_call 8; refine (CV.out _ _ S4.out).mono ?_; rintro e1 W5 ⟨v5, rfl, hS, hT⟩; have S5 := Lib.hid hS; have T5 := Lib.hid hT; have K5 := Lib.hid (K4.out.keep S4.out hT (fun f => f)); clear hS hT) | (go_at_call 24; refine (put_calls S5.out (fun _ => False) _ _ _ _ HPL.out).mono ?_; rintro e1 W6 ⟨v6, rfl, hS, hT⟩; have S6 := Lib.hid hS; have T6 := Lib.hid hT; have K6 := Lib.hid (K5.out.keep S5.out hT (fun f => f)); clear hS hT))
          go_ret
          exact ERes.mk_ok HX.out (by rw [← List.append_assoc, HKB.out]; exact S6.out) ((stp0 (T1.out.trans T2.out)).trans (T3.out.trans (stp0 ((T4.out.trans T5.out).trans T6.out)))) (by rw [← HLK.out]; exact K6.out)
end
end Go.Proofs.YtkcfigfhbeohfaaGreatDoor.Tp
