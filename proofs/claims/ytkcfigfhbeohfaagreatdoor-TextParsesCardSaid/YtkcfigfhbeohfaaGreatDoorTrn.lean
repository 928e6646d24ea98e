/- The reader's keys and object. -/
import Derived.Test.YtkcfigfhbeohfaaGreatDoorTrm
namespace Go.Proofs.YtkcfigfhbeohfaaGreatDoor.Tp
open Go Go.RowKit Go.Maps Go.Proofs.YtkcfigfhbeohfaaGreatDoorW.PrintWords
def strV (k : List UInt8) : Value := .string ⟨k.toArray⟩
theorem bytes_eq {A T : ByteArray} : (A.toList == T.toList) = decide (A.data.toList = T.data.toList) := by
  rw [ByteArray.toList_eq, ByteArray.toList_eq]
  by_cases h : A.data.toList = T.data.toList
  · rw [h]; simp
  · rw [decide_eq_false h, beq_eq_false_iff_ne]; exact h
set_option maxHeartbeats 8000000 in
set_option maxRecDepth 100000 in
theorem has_calls (W : World) (ks : List (List UInt8)) (B n : Nat) (A : Option Addr) (cap : Nat) (hn : ks.length = n) (ho : W.ownsRow B 9 1 (.slice A n cap) n (ks.map strV)) (T : ByteArray) (hl : n ≤ 4294967296) :
    Calls Tryz.prog 53 #[.slice A n cap, .string T] W fun e W' => e = .returned (.bool (decide (T.data.toList ∈ ks))) ∧ W' = W := by
  have HN := Lib.hid hn
  have HO := Lib.hid ho
  have HL := Lib.hid hl
  clear hn ho hl
  go_enter Tryz.func53, Tryz.ntmps53
  go_wp2_with fail
  go_loopg [5] n (fun k v5 W' => ∃ q : Nat, v5 = .int .i64 (q : Int) ∧ Hid (k = n - q) ∧ Hid (q ≤ n) ∧ Hid (T.data.toList ∉ ks.take q) ∧ Hid (W' = W))
  case atStart => exact ⟨0, rfl, Lib.hid rfl, Lib.hid (Nat.zero_le _), Lib.hid (by simp), Lib.hid rfl⟩
  case round =>
    obtain ⟨q, rfl, HK, HQ, HT, HW⟩ := hrel
    by_cases hlt : q < n
    · have d1 : decide ((q : Int) < (n : Int)) = true := by simp; omega
      have hq : q < ks.length := by rw [HN.out]; exact hlt
      obtain ⟨b, rfl, hcell⟩ : ∃ b, A = some ⟨b, 0, none⟩ ∧ wr.cell? ⟨b, q, none⟩ = some (.string ⟨(ks[q]).toArray⟩) := by
        rcases HO.out.2 with ⟨_, h0⟩ | ⟨b, cap', cur, he, _, hh, _, _, hsz, htk⟩
        · omega
        · injection he with he
          refine ⟨b, he, ?_⟩
          rw [HW.out]
          refine (blk_cell hh q).trans ?_
          have h1 : (cur.toList.take (n * 1))[q]? = (ks.map strV)[q]? := by rw [htk]
          rw [List.getElem?_take_of_lt (by omega), Array.getElem?_toList] at h1
          rw [h1, List.getElem?_map, List.getElem?_eq_getElem hq]
          rfl
      have hw : wrap64 ((q : Int) + 1) = ((q + 1 : Nat) : Int) := by have := HL.out; unfold wrap64; omega
      obtain ⟨C, hC⟩ : ∃ C : ByteArray, (⟨(ks[q]).toArray⟩ : ByteArray) = C := ⟨_, rfl⟩
      have hCl : C.data.toList = ks[q] := by rw [← hC]
      rw [hC] at hcell
      by_cases he : C.data.toList = T.data.toList
      · have t1 : (C.toList == T.toList) = true := by rw [bytes_eq]; exact decide_eq_true he
        have HD := Lib.hid (show decide (T.data.toList ∈ ks) = true by rw [← he, hCl]; exact decide_eq_true (List.getElem_mem hq))
        clear hC hCl he
        go_wp2_with fail
        go_ret
        exact ⟨by rw [HD.out]; rfl, HW.out⟩
      · have t1 : (C.toList == T.toList) = false := by rw [bytes_eq]; exact decide_eq_false he
        have HTN := Lib.hid (show T.data.toList ∉ ks.take (q + 1) by
          rw [List.take_succ_eq_append_getElem hq, List.mem_append, not_or]
          exact ⟨HT.out, by rw [List.mem_singleton, ← hCl]; exact fun e => he e.symm⟩)
        clear hC hCl he
        go_wp2_with fail
        go_roundg (n - (q + 1))
        case rel => exact ⟨q + 1, by rw [hw], Lib.hid rfl, Lib.hid hlt, HTN, HW⟩
        case measure => have := HK.out; omega
    · have d1 : decide ((q : Int) < (n : Int)) = false := by simp; omega
      have HD := Lib.hid (show decide (T.data.toList ∈ ks) = false by
        refine decide_eq_false ?_
        have := HT.out
        rwa [List.take_of_length_le (by rw [HN.out]; have := HQ.out; omega)] at this)
      go_wp2_with fail
      go_ret
      exact ⟨by rw [HD.out]; rfl, HW.out⟩
section
variable {W W0 : World} {g base : Nat} {s : ByteArray} {p q N : Nat} {o : List Nd} {c a : Int} {v v0 : Value}
def xquo (ob : List Nd) (r : List UInt8) : R (List Nd) := match quoted r with
  | .ok (_, r1) => .ok (ob, r1)
  | .error e => .error e
/-- Behind a key. -/
def xmem1 (ks : List (List UInt8)) (ob : List Nd) (r : List UInt8) : R (List Nd) := match quoted r with
  | .ok (key, r1) => if key ∈ ks then .error (13, r.length) else .ok (ob, r1)
  | .error e => .error e
def IsKey (r : List UInt8) (T : ByteArray) : Prop := ∀ key r1, quoted r = .ok (key, r1) → T = ⟨key.toArray⟩
theorem xmem1_has {ks : List (List UInt8)} {ob : List Nd} {r : List UInt8} {T : ByteArray} (hT : IsKey r T) (h : decide (T.data.toList ∈ ks) = true) : xwrong (13, r.length) (xquo ob r) = xmem1 ks ob r := by
  unfold xquo xmem1
  cases hq : quoted r with
  | error e => rfl
  | ok y =>
    obtain ⟨key, r1⟩ := y
    have := hT _ _ hq
    subst this
    simp only [xwrong]
    rw [if_pos (of_decide_eq_true h)]
theorem xmem1_not {ks : List (List UInt8)} {ob : List Nd} {r : List UInt8} {T : ByteArray} (hT : IsKey r T) (h : decide (T.data.toList ∈ ks) = false) : xquo ob r = xmem1 ks ob r := by
  unfold xquo xmem1
  cases hq : quoted r with
  | error e => rfl
  | ok y =>
    obtain ⟨key, r1⟩ := y
    have := hT _ _ hq
    subst this
    simp only
    rw [if_neg (of_decide_eq_false h)]
theorem xmem_row (d : Nat) {ks : List (List UInt8)} {ob : List Nd} {r : List UInt8} {T : ByteArray} (hT : IsKey r T) (hr : skip r = r) :
    xskip (xput ⟨6, T, 0, 1⟩ (xval d (xsign 58 (xmem1 ks ob r)))) = xrow ob (member (value d) ks r) := by
  unfold xmem1 member
  rw [hr]
  cases hq : quoted r with
  | error e => rfl
  | ok y =>
    obtain ⟨key, r1⟩ := y
    have := hT _ _ hq
    subst this
    simp only
    by_cases hk : key ∈ ks
    · simp only [if_pos hk]; rfl
    · simp only [if_neg hk, xsign]
      cases takeB 58 r1 with
      | error e => rfl
      | ok t =>
        simp only [xval]
        cases value d t with
        | error e => rfl
        | ok y => obtain ⟨pp, r3⟩ := y; simp only [xput, xskip, xrow, List.append_assoc]
theorem xmem_key (d : Nat) {ks : List (List UInt8)} {r : List UInt8} {T : ByteArray} (hT : IsKey r T) (hr : skip r = r) : ∀ p r1 s1, member (value d) ks r = .ok (p, r1, s1) → ks ++ [T.data.toList] = s1 := by
  intro p r1 s1 h
  unfold member at h
  rw [hr] at h
  cases hq : quoted r with
  | error e => rw [hq] at h; cases h
  | ok y =>
    obtain ⟨key, r2⟩ := y
    have := hT _ _ hq
    subst this
    rw [hq] at h
    simp only at h
    by_cases hk : key ∈ ks
    · rw [if_pos hk] at h; cases h
    · rw [if_neg hk] at h
      cases ht : takeB 58 r2 with
      | error e => rw [ht] at h; cases h
      | ok t =>
        rw [ht] at h
        simp only at h
        cases hv : value d t with
        | error e => rw [hv] at h; cases h
        | ok y => rw [hv] at h; cases h; rfl
theorem xmem_len {ks : List (List UInt8)} {ob ob' : List Nd} {r r' : List UInt8} (h : xsign 58 (xmem1 ks ob r) = .ok (ob', r')) : ob' = ob ∧ r'.length ≤ r.length := by
  unfold xmem1 at h
  cases hq : quoted r with
  | error e => rw [hq] at h; cases h
  | ok y =>
    obtain ⟨key, r1⟩ := y
    rw [hq] at h
    simp only at h
    by_cases hk : key ∈ ks
    · rw [if_pos hk] at h; cases h
    · rw [if_neg hk] at h
      simp only [xsign] at h
      cases ht : takeB 58 r1 with
      | error e => rw [ht] at h; cases h
      | ok t =>
        rw [ht] at h
        simp only [Except.ok.injEq, Prod.mk.injEq] at h
        obtain ⟨rfl, rfl⟩ := h
        obtain ⟨c1, e1, _⟩ := quoted_ext hq
        obtain ⟨c2, e2, _⟩ := takeB_ext ht
        have h1 := congrArg List.length e1
        have h2 := congrArg List.length e2
        rw [List.length_append, List.length_cons] at h1 h2
        exact ⟨rfl, by omega⟩
theorem rquoted_gen {ob : List Nd} {r : List UInt8} (hR : Rd W g base s q (o ++ ob) 0 a v) (hT : Stp X0 g W0 v0 W v) (hN : (o ++ ob).length ≤ N) (hq : q + r.length = s.size) (hr : rest s q = r) (hz : s.size ≤ 4294967296) :
    Calls Tryz.prog 32 #[.pointer (some ⟨g, 0, none⟩)] W fun e W' => ∃ T, e = .returned (.string T) ∧ RS N g base s a W0 v0 o (xquo ob r) W' ∧ Kr W W' ∧ IsKey r T := by
  refine (rquoted_calls hR (by omega) X0 hz).mono ?_
  intro e W' h
  rw [hr] at h
  unfold xquo IsKey
  cases hqq : quoted r with
  | error x =>
    rw [hqq] at h
    obtain ⟨q', T, rfl, h1, h2⟩ := h
    exact ⟨T, rfl, ⟨q', _, _, _, v, h1, hT.trans h2, hN, rfl, rfl, quoted_code hqq⟩, hR.kr h2, fun _ _ e => by cases e⟩
  | ok y =>
    obtain ⟨key, r1⟩ := y
    rw [hqq] at h
    obtain ⟨rfl, h1, h2⟩ := h
    obtain ⟨c1, e1, _⟩ := quoted_ext hqq
    have hs := rest_suffix (s := s) (p := q) (c := c1 ++ [34]) (x := r1) (by omega) (by rw [hr, e1]; simp)
    have hl := congrArg List.length e1
    rw [List.length_append, List.length_cons] at hl
    exact ⟨_, rfl, ⟨_, _, _, _, v, h1, hT.trans h2, hN, rfl, rfl, rfl, by omega, hs.1⟩, hR.kr h2, fun _ _ e => by cases e; rfl⟩
theorem RS.grown {W' : World} {x : R (List Nd)} (h : RS N g base s a W0 v0 o x W) {B t size n : Nat} {vo : Value} {xs : List Value} (ho : W.ownsRow B t size vo n xs) (ht : t ≠ 45 ∧ t ≠ 40) (hg : W.grownBy W' vo.ownBlock) (hb : Below B W W') (hB : W0.heap.size ≤ B) : RS N g base s a W0 v0 o x W' := by
  obtain ⟨q, o2, c, a2, v, h1, h2, h3, h4⟩ := h
  exact ⟨q, o2, c, a2, v, h1.grownRow ho ht hg, h2.belowB hb hB, h3, h4⟩
set_option maxHeartbeats 16000000 in
set_option maxRecDepth 100000 in
theorem robject_calls (d : Nat) (hd : d ≤ 19) (hV : VR d) (h : Rd W g base s p o 0 a v) (hz : s.size ≤ 1073741824) (t : List UInt8) (hr : rest s p = 123 :: t) (N : Nat) (hN1 : o.length + (s.size - p) + 3 * (d + 2) ≤ N) (hN2 : N ≤ 4294967296) (dep : Int) (hdep : 21 - ((d + 1 : Nat) : Int) = dep) :
    Calls Tryz.prog 35 #[.pointer (some ⟨g, 0, none⟩), .int .i64 dep] W fun r W' => r = .returned (.tuple #[]) ∧ RS N g base s a W v o (finL 7 (rows 125 (member (value d)) [] t)) W' := by
  obtain ⟨F, hF⟩ : ∃ F : R (List Nd), (finL 7 (rows 125 (member (value d)) [] t)) = F := ⟨_, rfl⟩
  rw [hF]
  obtain ⟨K, hK1, hK2, hK3⟩ := rows_at (e := 125) (each := member (value d)) [] t
  have hlt := rest_lt hr
  have hrt := (rest_get hr hlt).2
  have hrl := rest_len s (p + 1)
  rw [hrt] at hrl
  have hFin : F = rowFin 7 125 (member (value d)) K [] (.ok ([], skip t)) 0 := by rw [← hF, hK3]; rfl
  obtain ⟨N, rfl⟩ : ∃ N', N = N' + 2 := ⟨N - 2, by omega⟩
  obtain ⟨M, hM⟩ : ∃ M, o.length + (s.size - p) = M := ⟨_, rfl⟩
  obtain ⟨c0, c1, c2, c3, c4⟩ := h.reads
  have f1 := h.frz 1
  have R0 : Hid (RS (N + 1) g base s a W v o (.ok ([], t)) (W.setCell ⟨g, 1, none⟩ (.int .i64 ((p : Int) + 1)))) := Lib.hid ⟨p + 1, o, 0, a, v, h.at1 (by omega), (Stp.refl X0 g W v).set _, by omega, by simp, rfl, rfl, by omega, hrt⟩
  obtain ⟨B, hB⟩ : ∃ B, W.heap.size = B := ⟨_, rfl⟩
  have HB := Lib.hid hB
  have HZ2 := Lib.hid (show s.size ≤ 4294967296 by omega)
  have HZ := Lib.hid hz
  have HN3 := Lib.hid (show N ≤ 4294967296 by omega)
  have HN4 := Lib.hid (show N + 1 ≤ 4294967296 by omega)
  have HMN := Lib.hid (show M + 3 * (d + 1) ≤ N by omega)
  have HFin := Lib.hid hFin
  have HK1 := Lib.hid hK1
  have HK2 := Lib.hid (show K ≤ s.size by omega)
  have HST := Lib.hid (show (skip t).length + o.length ≤ M by have := skip_le t; omega)
  have HV := Lib.hid hV
  have hl1 : 1 ≤ dep := by omega
  have hl2 : dep ≤ 20 := by omega
  have hdd := Lib.hid (show 21 - (d : Int) = dep + 1 by omega)
  clear h hr hrt hrl hF hFin hK1 hK2 hK3 hN1 hN2 hM hdep hd hV hB
  go_enter Tryz.func35, Tryz.ntmps35
  go_wp2_with (first | (go_at_call 13; (with_reducible refine (rskip_gen R0.out HZ2.out).mono ?_); rintro e1 W1 ⟨rfl, hS, hkr⟩; have S1 := Lib.hid hS; have Z1 := Lib.hid (show B ≤ W1.heap.size by have := hkr.sz; rw [World.size_setCell] at this; rw [← HB.out]; exact this); clear hS hkr))
  go_loopg [4] K (fun k v4 W' => ∃ (n : Nat) (x : R (List Nd)) (ks : List (List UInt8)) (A : Option Addr) (cap : Nat), v4 = .slice A n cap ∧ Hid (LH M (N + 1) g base s a W v o F 7 125 (member (value d)) k ks n x W') ∧ Hid (W'.ownsRow B 9 1 (.slice A n cap) n (ks.map strV)) ∧ Hid (ks.length = n) ∧ Hid (B ≤ W'.heap.size) ∧ Aside0 (n + k ≤ K))
  case atStart => exact ⟨0, _, [], none, 0, rfl, Lib.hid ⟨S1.out, HFin.out, by rintro ob r hx; cases hx; exact ⟨HK1.out, by have := HST.out; simp; omega, skip_skip t⟩⟩, Lib.hid (own_nil _ _ _ _), Lib.hid rfl, Z1, ⟨by omega⟩⟩
  case round =>
    obtain ⟨n, x, ks, A, cap, rfl, HL, HO, HNK, HBW, HN⟩ := hrel
    obtain ⟨⟨q, o2, c, a2, v2, hR, hT, hNN, hX⟩, hFx, hxx⟩ := HL.out
    have HR := Lib.hid hR
    have HFx := Lib.hid hFx
    have HNN4 := Lib.hid (show n ≤ 4294967296 by have := HN.out; have := HK2.out; omega)
    clear hR hT hNN hFx
    cases x with
    | error e =>
      have HC := Lib.hid hX.code_err
      clear hX hxx
      go_wp2_with (first | (go_at_call 12; (with_reducible refine (rok_calls HR.out).mono ?_); rw [HC.out]; rintro e1 W5 ⟨rfl, hw5⟩; have hw6 := hw5.symm; clear hw5; subst hw6) | (go_at_call 50; (with_reducible refine (rsign_gen HL.out.rs HZ2.out 125 125 rfl).mono ?_); rintro e1 W20 ⟨rfl, hS, _⟩; have S20 := Lib.hid hS; clear hS) | (go_at_call 33; (with_reducible refine (rput_gen S20.out HN4.out _ _ _ _).mono ?_); rintro e1 W21 ⟨rfl, hS, _⟩; have S21 := Lib.hid hS; clear hS))
      go_end0
      exact ⟨rfl, by rw [HFx.out]; exact S21.out⟩
    | ok y =>
      obtain ⟨ob, r⟩ := y
      have HC := Lib.hid hX.code_ok
      obtain ⟨hk1, hk2, hk3⟩ := hxx _ _ rfl
      obtain ⟨_, _, _, hx4, hx5⟩ := hX
      cases hI : isB 125 r with
      | true =>
        have HI := Lib.hid (show isB 125 (rest s q) = true by rw [hx5]; exact hI)
        have HFF := Lib.hid (HFx.out.trans (fin_close hI (by decide)))
        clear hI hx5 hk3
        go_wp2_with (first | (go_at_call 12; (with_reducible refine (rok_calls HR.out).mono ?_); rw [HC.out]; rintro e1 W5 ⟨rfl, hw5⟩; have hw6 := hw5.symm; clear hw5; subst hw6) | (go_at_call 51; (with_reducible refine (is_at HR.out 125 125 rfl).mono ?_); rw [HI.out]; rintro e1 W6 ⟨rfl, n6, rfl⟩) | (go_at_call 50; (with_reducible refine (rsign_gen (HL.out.rs.drewN _) HZ2.out 125 125 rfl).mono ?_); rintro e1 W20 ⟨rfl, hS, _⟩; have S20 := Lib.hid hS; clear hS) | (go_at_call 33; (with_reducible refine (rput_gen S20.out HN4.out _ _ _ _).mono ?_); rintro e1 W21 ⟨rfl, hS, _⟩; have S21 := Lib.hid hS; clear hS))
        go_end0
        exact ⟨rfl, by rw [HFF.out]; exact S21.out⟩
      | false =>
        have HI := Lib.hid (show isB 125 (rest s q) = false by rw [hx5]; exact hI)
        have HIr := Lib.hid hI
        cases gk with
        | zero => exact absurd hk1 (Nat.not_lt_zero _)
        | succ k1 =>
          have HOB := Lib.hid (show (o ++ ob).length ≤ N by have := HMN.out; rw [List.length_append]; omega)
          have HXS := Lib.hid (show xskip (.ok (ob, r)) = .ok (ob, r) by simp only [xskip, hk3])
          have HSK := Lib.hid hk3
          have HVB := Lib.hid (show ∀ ob' r', xsign 58 (xmem1 ks ob r) = .ok (ob', r') → o.length + ob'.length + r'.length + 3 * (d + 1) ≤ N by intro ob' r' hx; obtain ⟨rfl, h2⟩ := xmem_len hx; have := HMN.out; omega)
          have HK3 := Lib.hid hk1
          have HK4 := Lib.hid hk2
          clear hI hx5 hk3 hk1 hk2 hx4
          go_wp2_with (first | (go_at_call 12; (with_reducible refine (rok_calls HR.out).mono ?_); rw [HC.out]; rintro e1 W5 ⟨rfl, hw5⟩; have hw6 := hw5.symm; clear hw5; subst hw6) | (go_at_call 51; (with_reducible refine (is_at HR.out 125 125 rfl).mono ?_); rw [HI.out]; rintro e1 W6 ⟨rfl, n6, rfl⟩) | (go_at_call 13; (with_reducible refine (rskip_gen (HL.out.rs.drewN _) HZ2.out).mono ?_); rintro e1 W7 ⟨rfl, hS, hkr⟩; have K7 := Lib.hid (hkr.row (own_drewN HO.out _) ⟨by decide, by decide⟩); have Z7 := Lib.hid (Nat.le_trans HBW.out hkr.sz); rw [HXS.out] at hS; obtain ⟨q7, o7, c7, a7, v7, hR, hT, hN, hX⟩ := hS.opn; obtain ⟨rfl, rfl, rfl, hx4, hx5⟩ := hX; have R7 := Lib.hid hR; have T7 := Lib.hid hT; have X74 := Lib.hid hx4; have X75 := Lib.hid hx5; obtain ⟨d0, d1, d2, d3, d4⟩ := hR.reads; have g1 := hR.frz 1; clear hR hT hN hx4 hx5 hS hkr) | (go_at_call 32; (with_reducible refine (rquoted_gen R7.out T7.out HOB.out X74.out X75.out HZ2.out).mono ?_); rintro e1 W8 ⟨T, rfl, hS, hkr, hKey⟩; have K8 := Lib.hid (hkr.row K7.out ⟨by decide, by decide⟩); have Z8 := Lib.hid (Nat.le_trans Z7.out hkr.sz); have HKey := Lib.hid hKey; have S8 := Lib.hid hS; clear hS hkr hKey d0 d1 d2 d3 d4 g1) | (go_at_call 53; (with_reducible refine (has_calls _ ks B n A cap HNK.out K8.out T HNN4.out).mono ?_); rintro e1 W9 ⟨rfl, hw⟩; have hw2 := hw.symm; clear hw; subst hw2; cases hm : decide (T.data.toList ∈ ks) <;> (have HM := Lib.hid hm; clear hm) <;> (try (have hS9 := S8.out; rw [xmem1_not HKey.out HM.out] at hS9; have S9 := Lib.hid hS9; clear hS9; have K9 := Lib.hid K8.out; have Z9 := Lib.hid Z8.out; clear S8 K8 Z8)) <;> (try (obtain ⟨q8, o8, c8, a8, v8, hR, hT, hN, hX⟩ := S8.out.opn; have R8 := Lib.hid hR; have T8 := Lib.hid hT; have N8 := Lib.hid hN; have X8 := Lib.hid hX; clear hR hT hN hX))) | (go_at_call 14; (with_reducible refine (rwrong_gen R8.out T8.out N8.out X8.out 13 (by decide) r.length _ (by intro _ _ _; have := X74.out; omega)).mono ?_); rintro e1 W10 ⟨rfl, hS, hkr⟩; rw [xmem1_has HKey.out HM.out] at hS; have S9 := Lib.hid hS; have K9 := Lib.hid (hkr.row K8.out ⟨by decide, by decide⟩); have Z9 := Lib.hid (Nat.le_trans Z8.out hkr.sz); clear hS hkr R8 T8 N8 X8 S8 K8 Z8) | (at_builtin; refine print_append B rfl (.tmp 37) (.tmp 39) 80 9 (.string ⟨#[]⟩) 16 rfl Tryz.underlying80 info_string rfl (by decide) (.slice A n cap) (ks.map strV) (.string T) rfl rfl rfl ?ho (Below.refl _ _) ?hb ?hl ?_; (case ho => rw [List.length_map, HNK.out]; exact K9.out); (case hb => exact Z9.out); (case hl => rw [List.length_map, HNK.out]; have := HNN4.out; omega); intro v1 w1 ho hbel hgr hat; rw [show ks.map strV ++ [.string T] = (ks ++ [T.data.toList]).map strV by simp [strV], List.length_map, List.length_append, List.length_singleton, HNK.out] at ho; obtain ⟨gg, cap1, rfl⟩ := own_form ho; have K11 := Lib.hid ho; have S11 := Lib.hid (S9.out.grown K9.out ⟨by decide, by decide⟩ hgr hbel (Nat.le_of_eq HB.out)); have Z11 := Lib.hid (Nat.le_trans Z9.out hbel.size); clear ho hbel hgr hat) | (go_at_call 50; (with_reducible refine (rsign_gen S11.out HZ2.out 58 58 rfl).mono ?_); rintro e1 W12 ⟨rfl, hS, hkr⟩; have S12 := Lib.hid hS; have K12 := Lib.hid (hkr.row K11.out ⟨by decide, by decide⟩); have Z12 := Lib.hid (Nat.le_trans Z11.out hkr.sz); clear hS hkr) | (go_at_call 11; (with_reducible refine (rvalue_gen HV.out S12.out HZ.out (Nat.le_refl _) HN3.out HVB.out (dep + 1) hdd.out).mono ?_); rintro e1 W13 ⟨rfl, hS, hkr⟩; have S13 := Lib.hid hS; have K13 := Lib.hid (hkr.row K12.out ⟨by decide, by decide⟩); have Z13 := Lib.hid (Nat.le_trans Z12.out hkr.sz); clear hS hkr) | (go_at_call 33; (with_reducible refine (rput_gen S13.out HN3.out _ _ _ _).mono ?_); rintro e1 W14 ⟨rfl, hS, hkr⟩; have S14 := Lib.hid hS; have K14 := Lib.hid (hkr.row K13.out ⟨by decide, by decide⟩); have Z14 := Lib.hid (Nat.le_trans Z13.out hkr.sz); clear hS hkr) | (go_at_call 13; (with_reducible refine (rskip_gen S14.out HZ2.out).mono ?_); rintro e1 W15 ⟨rfl, hS, hkr⟩; have K15 := Lib.hid (hkr.row K14.out ⟨by decide, by decide⟩); have Z15 := Lib.hid (Nat.le_trans Z14.out hkr.sz); obtain ⟨q15, o15, c15, a15, v15, hR, hT, hN, hX⟩ := hS.opn; rw [xmem_row d HKey.out HSK.out] at hX; have R15 := Lib.hid hR; have T15 := Lib.hid hT; have N15 := Lib.hid hN; have X15 := Lib.hid hX; obtain ⟨d0, d1, d2, d3, d4⟩ := hR.reads; have g1 := hR.frz 1; have hlq := hR.le; clear hR hT hN hX hkr; cases hb : isB 44 (rest s q15) <;> (have B15 := Lib.hid hb; clear hb)) | (go_at_call 51; (with_reducible refine (is_at R15.out 44 44 rfl).mono ?_); rw [B15.out]; rintro e1 W16 ⟨rfl, n16, rfl⟩) | (go_at_call 13; (with_reducible refine (rskip_gen (RS.mk ((R15.out.drewN _).at1 (by have := isB_lt B15.out; omega)) ((T15.out.drewN _).set _) N15.out (X15.out.drop B15.out)) HZ2.out).mono ?_); rintro e1 W17 ⟨rfl, hS, hkr⟩; have K17 := Lib.hid (hkr.row ((R15.out.drewN _).setRow (own_drewN K15.out _) (by decide) 1 _) ⟨by decide, by decide⟩); have Z17 := Lib.hid (Nat.le_trans Z15.out (by have := hkr.sz; rw [World.size_setCell] at this; exact this)); clear d0 d1 d2 d3 d4 g1 hlq; obtain ⟨q17, o17, c17, a17, v17, hR, hT, hN, hX⟩ := hS.opn; have R17 := Lib.hid hR; have T17 := Lib.hid hT; have N17 := Lib.hid hN; have X17 := Lib.hid hX; obtain ⟨d0, d1, d2, d3, d4⟩ := hR.reads; have g1 := hR.frz 1; have hlq := hR.le; clear hR hT hN hX hkr; cases hb : isB 125 (rest s q17) <;> (have B17 := Lib.hid hb; clear hb)) | (go_at_call 51; (with_reducible refine (is_at R17.out 125 125 rfl).mono ?_); rw [B17.out]; rintro e1 W18 ⟨rfl, n18, rfl⟩) | (go_at_call 14; (with_reducible refine (rwrong_gen (R17.out.drewN _) (T17.out.drewN _) N17.out X17.out 10 (by decide) (s.size - q17) _ (by intro ob r hx; have := X17.out.len _ _ hx; omega)).mono ?_); rintro e1 W19 ⟨rfl, hS, hkr⟩; have S19 := Lib.hid hS; have K19 := Lib.hid (hkr.row (own_drewN K17.out _) ⟨by decide, by decide⟩); have Z19 := Lib.hid (Nat.le_trans Z17.out hkr.sz); clear hS hkr) | (go_at_call 50; (with_reducible refine (rsign_gen (RS.mk (R15.out.drewN _) (T15.out.drewN _) N15.out X15.out) HZ2.out 125 125 rfl).mono ?_); rintro e1 W20 ⟨rfl, hS, _⟩; have S20 := Lib.hid hS; clear hS) | (go_at_call 33; (with_reducible refine (rput_gen S20.out HN4.out _ _ _ _).mono ?_); rintro e1 W21 ⟨rfl, hS, _⟩; have S21 := Lib.hid hS; clear hS))
          all_goals first
            | (go_end0; exact ⟨rfl, by rw [HFx.out.trans (row_brk HIr.out (X15.out.at_ B15.out))]; exact S21.out⟩)
            | (go_roundg k1
               case rel =>
                 refine ⟨n + 1, _, ks ++ [T.data.toList], _, _, rfl, Lib.hid ⟨S19.out, HFx.out.trans ((row_close HIr.out (X15.out.at_ B15.out) (fun ob' r' hx => ⟨X17.out.at_ B17.out _ _ hx, (X17.out.len _ _ hx).2.symm⟩)).trans (fin_wrong _ _).symm), fun ob' r' hx => (xwrong_ne hx).elim⟩, K19, Lib.hid (by rw [List.length_append, HNK.out]; rfl), Z19, ⟨by have := HN.out; omega⟩⟩
               case measure => exact Nat.lt_succ_self _)
            | (go_roundg k1
               case rel =>
                 refine ⟨n + 1, _, ks ++ [T.data.toList], _, _, rfl, Lib.hid ⟨RS.mk (R17.out.drewN _) (T17.out.drewN _) N17.out X17.out, HFx.out.trans (row_next HIr.out (X15.out.at_ B15.out) (X17.out.at_ B17.out) (xmem_key d HKey.out HSK.out)), fun ob' r' hx => ?_⟩, Lib.hid (own_drewN K17.out _), Lib.hid (by rw [List.length_append, HNK.out]; rfl), Z17, ⟨by have := HN.out; omega⟩⟩
                 have h1 := row_less (eats_member d) (member_len (value_len d)) hx
                 have h2 := HK3.out
                 have h3 := HK4.out
                 exact ⟨by omega, by omega, xskip_self hx⟩
               case measure => exact Nat.lt_succ_self _)
end
end Go.Proofs.YtkcfigfhbeohfaaGreatDoor.Tp
