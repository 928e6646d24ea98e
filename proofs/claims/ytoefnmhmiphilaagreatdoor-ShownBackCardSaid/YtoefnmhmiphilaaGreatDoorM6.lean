/- Texts of the claim, merged. -/
import Derived.Test.YtoefnmhmiphilaaGreatDoorM5
set_option linter.unusedVariables false
set_option linter.unusedSimpArgs false
namespace Go.Proofs.YtoefnmhmiphilaaGreatDoor.Tp
open Go Go.RowKit Go.Maps Go.Proofs.YtoefnmhmiphilaaGreatDoorW.PrintWords
def kp : Nat → List Tr → List Nat
  | _, [] => []
  | s, t :: ts => (s + (flat t).length - 1) :: kp (s + (flat t).length) ts
theorem kp_append : ∀ (a b : List Tr) (s : Nat), kp s (a ++ b) = kp s a ++ kp (s + (flats a).length) b
  | [], b, s => by simp [kp, flats]
  | t :: a, b, s => by
    simp only [List.cons_append, kp, kp_append a b, flats, List.length_append]
    rw [Nat.add_assoc]
theorem kp_length : ∀ (a : List Tr) (s : Nat), (kp s a).length = a.length
  | [], _ => rfl
  | t :: a, s => by simp only [kp, List.length_cons, kp_length a]
structure AtT (o : List Nd) (i : Nat) (pre : List Nd) (t : Tr) : Prop where
  eq : o.take (i + 1) = pre ++ flat t
  ok : okA t = true
  lt : i < o.length
theorem AtT.len {o : List Nd} {i : Nat} {pre : List Nd} {t : Tr} (h : AtT o i pre t) : i + 1 = pre.length + (flat t).length := by
  have := congrArg List.length h.eq
  rw [List.length_take, List.length_append] at this
  have := h.lt
  omega
theorem AtT.node {o : List Nd} {i : Nat} {pre : List Nd} {t : Tr} (h : AtT o i pre t) : o[i]'h.lt = t.nd := by
  have h1 := congrArg List.reverse h.eq
  rw [take_rev h.lt, List.reverse_append] at h1
  obtain ⟨r, hr⟩ := flat_head t
  rw [hr, List.cons_append] at h1
  injection h1
theorem AtT.bg {o : List Nd} {i : Nat} {pre : List Nd} {t : Tr} (h : AtT o i pre t) {f : Nat} (hf : i < f) : bgI (bg f (o.take (i + 1)).reverse) = (pre.length : Int) := by
  have hl := h.len
  rw [h.eq, List.reverse_append, bg_tree t h.ok f _ (by omega)]
  simp [bgI]
theorem AtT.kid {o : List Nd} {i : Nat} {pre : List Nd} {n : Nd} {b1 b2 : List Tr} {u : Tr} (h : AtT o i pre (.mk n (b1 ++ u :: b2))) : AtT o (pre.length + (flats b1).length + (flat u).length - 1) (pre ++ flats b1) u := by
  have hl := h.len
  have hlt := h.lt
  rw [flat, flats_append, flats, List.length_append, List.length_append, List.length_append, List.length_singleton] at hl
  have hfu := List.length_pos_iff.2 (flat_ne u)
  refine ⟨?_, ?_, by omega⟩
  · have h1 : o.take (pre.length + (flats b1).length + (flat u).length - 1 + 1) = (o.take (i + 1)).take (pre.length + (flats b1).length + (flat u).length) := by
      rw [List.take_take]; congr 1; omega
    rw [h1, h.eq, flat, flats_append, flats]
    have : pre ++ (flats b1 ++ (flat u ++ flats b2) ++ [n]) = (pre ++ flats b1 ++ flat u) ++ (flats b2 ++ [n]) := by simp
    rw [this, List.take_left' (by simp; omega)]
  · have := h.ok
    simp only [okA, Bool.and_eq_true] at this
    have h4 := this.2
    rw [okAs_all] at h4
    exact List.all_eq_true.1 h4 u (by simp)
theorem own_bel {w w' : World} {base e size n : Nat} {v : Value} {xs : List Value} (h : w.ownsRow base e size v n xs) {B : Nat} (hb : Below B w w') (hB : w.heap.size ≤ B) : w'.ownsRow base e size v n xs := by
  refine ⟨h.1, ?_⟩
  rcases h.2 with h1 | ⟨g, cap, cur, rfl, h2, h3, r⟩
  · exact .inl h1
  · exact .inr ⟨g, cap, cur, rfl, h2, (hb.block g (Nat.lt_of_lt_of_le (blk_lt h3) hB)).trans h3, r⟩
theorem own_lower {w : World} {base base' e size n : Nat} {v : Value} {xs : List Value} (h : w.ownsRow base e size v n xs) (hb : base' ≤ base) : w.ownsRow base' e size v n xs := by
  refine ⟨h.1, ?_⟩
  rcases h.2 with h1 | ⟨g, cap, cur, rfl, h2, r⟩
  · exact .inl h1
  · exact .inr ⟨g, cap, cur, rfl, Nat.le_trans hb h2, r⟩
theorem info_int : (Tryz.prog.info? 3).map (fun i => (i.zero, i.size, i.bytes)) = some (some (.int .i64 0), 1, 8) := by kernel_rfl
theorem own_read {w : World} {base e n : Nat} {A : Option Addr} {cap : Nat} {xs : List Int} (h : w.ownsRow base e 1 (.slice A n cap) n (nums .i64 xs)) (j : Nat) (hj : j < xs.length) : ∃ b, A = some ⟨b, 0, none⟩ ∧ w.cell? ⟨b, j, none⟩ = some (.int .i64 xs[j]) := by
  rcases h.2 with ⟨_, h0⟩ | ⟨b, cap', cur, he, _, hh, _, _, hsz, htk⟩
  · have := h.1; simp [nums] at this; omega
  · injection he with he
    refine ⟨b, he, ?_⟩
    refine (blk_cell hh j).trans ?_
    have hn : xs.length = n := by have := h.1; simpa [nums] using this
    have h1 : (cur.toList.take (n * 1))[j]? = (nums .i64 xs)[j]? := by rw [htk]
    rw [List.getElem?_take_of_lt (by omega), Array.getElem?_toList] at h1
    rw [h1]
    simp [nums, List.getElem?_eq_getElem hj]
def intsOf (l : List Nat) : List Int := l.map (fun x : Nat => (x : Int))
set_option maxHeartbeats 8000000 in
set_option maxRecDepth 100000 in
theorem kids_calls (W : World) (A : Option Addr) (n cap : Nat) (o : List Nd) (hL : Lst W A n o) (i : Nat) (pre : List Nd) (t : Tr) (hT : AtT o i pre t) :
    Calls Tryz.prog 35 #[.slice A n cap, .int .i64 (i : Int)] W fun e W' => ∃ A' c, e = .returned (.slice A' t.kids.length c) ∧ W'.ownsRow W.heap.size 3 1 (.slice A' t.kids.length c) t.kids.length (nums .i64 (intsOf (kp pre.length t.kids))) ∧ Below W.heap.size W W' := by
  have hin : i < n := by rw [← hL.len]; exact hT.lt
  obtain ⟨b, off, rfl, hns⟩ := hL.nv.some (by have := hT.lt; omega)
  obtain ⟨nn, kids⟩ := t
  have hnode := hT.node
  simp only [Tr.nd] at hnode
  simp only [Tr.kids]
  have hlen := hT.len
  rw [flat, List.length_append, List.length_singleton] at hlen
  have hkf : nn.f3 = (kids.length : Int) := by
    have := hT.ok
    simp only [okA, Bool.and_eq_true, decide_eq_true_eq] at this
    exact this.1.1.1
  have hkl : kids.length ≤ (flats kids).length := by
    rw [flats_len]
    have : ∀ l : List Tr, l.length ≤ (l.map (fun t => (flat t).length)).sum := by
      intro l
      induction l with
      | nil => simp
      | cons u l ih => have := List.length_pos_iff.2 (flat_ne u); simp only [List.length_cons, List.map_cons, List.sum_cons]; omega
    exact this kids
  have hfew := hL.few
  have HL := Lib.hid hL
  have HT := Lib.hid hT
  have hio0 : i < o.length := hT.lt
  have HN := Lib.hid (show o[i]'hio0 = nn from hnode)
  have HK := Lib.hid hkf
  have HLEN := Lib.hid (show i = pre.length + (flats kids).length by omega)
  obtain ⟨m, hm⟩ : ∃ m, kids.length = m := ⟨_, rfl⟩
  rw [hm] at hkl hkf
  rw [hm]
  have HM := Lib.hid hm
  have hmi : m ≤ i := by omega
  have hi0 : (i : Int) < (n : Int) := by omega
  clear hL hT hns hnode hkf hlen hm hkl
  go_enter Tryz.func35, Tryz.ntmps35
  go_wp2_with fail
  go_loopg [5, 6, 7] m (fun k v5 v6 v7 W' => ∃ (z : Int) (kk : Nat) (b1 b2 : List Tr) (A1 : Option Addr) (c1 : Nat), v5 = .slice A1 kk c1 ∧ v6 = .int .i64 z ∧ v7 = .int .i64 (kk : Int) ∧ Hid (k = m - kk) ∧ Hid (kids = b1 ++ b2 ∧ b2.length = kk) ∧ Hid (z = (pre.length : Int) + (flats b1).length - 1) ∧ Hid (W'.ownsRow W.heap.size 3 1 (.slice A1 kk c1) kk (nums .i64 (intsOf (kp (pre.length + (flats b1).length) b2).reverse))) ∧ Hid (Below W.heap.size W W') ∧ Aside0 (kk ≤ m))
  case atStart => exact ⟨_, 0, kids, [], none, 0, rfl, rfl, rfl, Lib.hid rfl, Lib.hid ⟨by simp, rfl⟩, Lib.hid (by have := HLEN.out; omega), Lib.hid (own_nil _ _ _ _), Lib.hid (Below.refl _ _), ⟨Nat.zero_le _⟩⟩
  case round =>
    obtain ⟨z, kk, b1, b2, A1, c1, rfl, rfl, rfl, HG, HS, HZ, HO, HB, HKM⟩ := hrel
    have hLw := HL.out.below HB.out (Nat.le_refl _)
    obtain ⟨b', off', hbe, hns⟩ := hLw.nv.some (by rw [HL.out.len]; omega)
    cases hbe
    have hio : i < o.length := by rw [HL.out.len]; exact hin
    obtain ⟨y0, y1, y2, y3⟩ := hns.at_ i hio
    rw [HN.out] at y0 y1 y2 y3
    rw [HK.out, HM.out] at y3
    have HLW := Lib.hid hLw
    clear hLw hns
    have hkm := HKM.out
    by_cases hk : kk < m
    · have d2 : decide ((kk : Int) < (m : Int)) = true := by simp; omega
      obtain ⟨b1', u, hb1⟩ : ∃ b1' u, b1 = b1' ++ [u] := by
        have h1 := HS.out
        have h2 := HM.out
        rw [h1.1, List.length_append, h1.2] at h2
        have : b1 ≠ [] := fun e => by rw [e] at h2; simp at h2; omega
        exact ⟨_, _, (List.dropLast_concat_getLast this).symm⟩
      subst hb1
      have hkid : AtT o (pre.length + (flats b1').length + (flat u).length - 1) (pre ++ flats b1') u := by
        have h1 := HT.out
        rw [HS.out.1, List.append_assoc] at h1
        exact h1.kid
      have hz := HZ.out
      rw [flats_append, flats_one, List.length_append] at hz
      have hfu := List.length_pos_iff.2 (flat_ne u)
      obtain ⟨q, hq⟩ : ∃ q : Nat, pre.length + (flats b1').length + (flat u).length - 1 = q := ⟨_, rfl⟩
      rw [hq] at hkid
      have hzq : z = (q : Int) := by omega
      subst hzq
      have hqo := hkid.lt
      have hqn : q < n := by rw [← HL.out.len]; exact hqo
      have CB := Lib.hid (fun W1 (hb : Below W.heap.size W W1) => begin_all (q + 1) W1 _ n cap o (HL.out.below hb (Nat.le_refl _)) q hqn (Nat.lt_succ_self q))
      rw [hkid.bg (Nat.lt_succ_self q)] at CB
      obtain ⟨s1, hs1⟩ : ∃ s1, (pre ++ flats b1').length = s1 := ⟨_, rfl⟩
      rw [hs1] at CB
      rw [List.length_append] at hs1
      have HS1 := Lib.hid hs1
      have HQ := Lib.hid hq
      have hs1q : s1 ≤ q := by omega
      have hqn2 : (q : Int) < (n : Int) := by omega
      clear hkid hz hq hs1 hfu hqo
      go_wp2_with (first | (at_builtin; refine print_append_num W.heap.size rfl (.tmp 21) (.tmp 23) 60 3 .i64 8 rfl Tryz.underlying60 info_int (by decide) _ (intsOf (kp (pre.length + (flats (b1' ++ [u])).length) b2).reverse) (q : Int) rfl rfl ?ho HB.out ?hb ?hl ?_; (case ho => have h1 := HO.out; rw [show (intsOf (kp (pre.length + (flats (b1' ++ [u])).length) b2).reverse).length = kk by simp [intsOf, kp_length, HS.out.2]]; exact h1); (case hb => exact HB.out.size); (case hl => rw [show (intsOf (kp (pre.length + (flats (b1' ++ [u])).length) b2).reverse).length = kk by simp [intsOf, kp_length, HS.out.2]]; omega); intro v1 w1 ho hbel hgr hat; rw [List.length_append, show (intsOf (kp (pre.length + (flats (b1' ++ [u])).length) b2).reverse).length = kk by simp [intsOf, kp_length, HS.out.2], List.length_singleton] at ho; obtain ⟨gg, cap1, rfl⟩ := own_form ho; have O8 := Lib.hid ho; have B8 := Lib.hid hbel; clear ho hbel hgr hat) | (go_at_call 29; (with_reducible refine (CB.out _ B8.out).mono ?_); rintro e1 W2 ⟨rfl, hb2⟩; have O9 := Lib.hid (own_bel O8.out hb2 (Nat.le_refl _)); have B9 := Lib.hid (B8.out.trans (hb2.mono B8.out.size)); clear hb2))
      go_roundg (m - (kk + 1))
      case rel =>
        refine ⟨_, kk + 1, b1', u :: b2, _, _, rfl, rfl, rfl, Lib.hid rfl, Lib.hid ⟨by rw [HS.out.1]; simp, by rw [List.length_cons, HS.out.2]⟩, Lib.hid (by have := HS1.out; omega), Lib.hid ?_, B9, ⟨by omega⟩⟩
        have h1 := O9.out
        have h2 : intsOf (kp (pre.length + (flats (b1' ++ [u])).length) b2).reverse ++ [(q : Int)] = intsOf (kp (pre.length + (flats b1').length) (u :: b2)).reverse := by
          simp only [kp, List.reverse_cons, intsOf, List.map_append, List.map_cons, List.map_nil]
          rw [HQ.out, flats_append, flats_one, List.length_append, Nat.add_assoc]
        rw [h2] at h1
        exact h1
      case measure => have := HG.out; omega
    · have hkk : kk = m := by omega
      subst hkk
      have d2 : decide ((kk : Int) < (kk : Int)) = false := by simp
      have hb1 : b1 = [] := by
        have h1 := HS.out
        have h2 := HM.out
        rw [h1.1, List.length_append, h1.2] at h2
        exact List.eq_nil_of_length_eq_zero (by omega)
      subst hb1
      have HKS := Lib.hid (show kids = b2 by rw [HS.out.1]; rfl)
      have hO := HO.out
      rw [show (flats ([] : List Tr)).length = 0 from rfl, Nat.add_zero] at hO
      have HO2 := Lib.hid hO
      obtain ⟨B2, hB2⟩ : ∃ B2, wr.heap.size = B2 := ⟨_, rfl⟩
      have HB2 := Lib.hid hB2
      clear hO hB2
      go_wp2_with fail
      go_loopg [8, 9] kk (fun k v8 v9 W' => ∃ (z2 : Int) (jj : Nat) (A2 : Option Addr) (c2 : Nat), v8 = .slice A2 jj c2 ∧ v9 = .int .i64 z2 ∧ Hid (k = kk - jj) ∧ Hid (z2 = (kk : Int) - jj - 1) ∧ Hid (W'.ownsRow B2 3 1 (.slice A2 jj c2) jj (nums .i64 (intsOf ((kp pre.length b2).take jj)))) ∧ Hid (Below B2 wr W') ∧ Aside0 (jj ≤ kk))
      case atStart => exact ⟨_, 0, none, 0, rfl, rfl, Lib.hid rfl, Lib.hid (by omega), Lib.hid (own_nil _ _ _ _), Lib.hid (Below.refl _ _), ⟨Nat.zero_le _⟩⟩
      case round =>
        obtain ⟨z2, jj, A2, c2, rfl, rfl, HG2, HZ2, HR, HC, HJ⟩ := hrel
        have hjj := HJ.out
        have hz2 := HZ2.out
        by_cases hj : jj < kk
        · obtain ⟨q, hq⟩ : ∃ q : Nat, kk - jj - 1 = q := ⟨_, rfl⟩
          have hzq : z2 = (q : Int) := by omega
          subst hzq
          have hlk : (kp pre.length b2).length = kk := by rw [kp_length, HS.out.2]
          have hqr : q < (intsOf (kp pre.length b2).reverse).length := by simp [intsOf]; omega
          obtain ⟨bb, hA1, hcell⟩ := own_read (own_bel HO2.out HC.out (Nat.le_of_eq HB2.out)) q hqr
          have hjl : jj < (kp pre.length b2).length := by omega
          have hval : (intsOf (kp pre.length b2).reverse)[q] = (((kp pre.length b2)[jj]'hjl : Nat) : Int) := by
            simp only [intsOf, List.getElem_map, List.getElem_reverse]
            congr 2
            omega
          obtain ⟨xv, hxv⟩ : ∃ xv : Int, (intsOf (kp pre.length b2).reverse)[q] = xv := ⟨_, rfl⟩
          rw [hxv] at hcell hval
          subst hA1
          have HV := Lib.hid hval
          have hqk : (q : Int) < (kk : Int) := by omega
          have hq0 : 0 ≤ (q : Int) := by omega
          have HQ := Lib.hid hq
          have HLK := Lib.hid hlk
          clear hxv hval hq hz2 hqr hlk
          go_wp2_with (first | (at_builtin; refine print_append_num B2 rfl (.tmp 36) (.tmp 41) 60 3 .i64 8 rfl Tryz.underlying60 info_int (by decide) _ (intsOf ((kp pre.length b2).take jj)) xv rfl rfl ?ho HC.out ?hb ?hl ?_; (case ho => have h1 := HR.out; rw [show (intsOf ((kp pre.length b2).take jj)).length = jj by simp [intsOf, HLK.out]; omega]; exact h1); (case hb => rw [← HB2.out]; exact HC.out.size); (case hl => rw [show (intsOf ((kp pre.length b2).take jj)).length = jj by simp [intsOf, HLK.out]; omega]; omega); intro v1 w1 ho hbel hgr hat; rw [List.length_append, show (intsOf ((kp pre.length b2).take jj)).length = jj by simp [intsOf, HLK.out]; omega, List.length_singleton] at ho; obtain ⟨gg, cap1, rfl⟩ := own_form ho; have O8 := Lib.hid ho; have B8 := Lib.hid hbel; clear ho hbel hgr hat))
          go_roundg (kk - (jj + 1))
          case rel =>
            refine ⟨_, jj + 1, _, _, rfl, rfl, Lib.hid rfl, Lib.hid (by have := HQ.out; omega), Lib.hid ?_, B8, ⟨by omega⟩⟩
            have h1 := O8.out
            rw [HV.out, show intsOf ((kp pre.length b2).take jj) ++ [(((kp pre.length b2)[jj]'hjl : Nat) : Int)] = intsOf ((kp pre.length b2).take (jj + 1)) by rw [List.take_succ_eq_append_getElem hjl]; simp only [intsOf, List.map_append, List.map_cons, List.map_nil]] at h1
            exact h1
          case measure => have := HG2.out; omega
        · have hjk : jj = kk := by omega
          subst hjk
          have hzq : z2 = -1 := by omega
          subst hzq
          have hR := HR.out
          rw [List.take_of_length_le (by rw [kp_length, HS.out.2]; exact Nat.le_refl _)] at hR
          have HRR := Lib.hid hR
          clear hR hz2
          go_wp2_with fail
          go_ret
          refine ⟨_, _, rfl, ?_, HB.out.trans (HC.out.mono (by rw [← HB2.out]; exact HB.out.size))⟩
          rw [HKS.out]
          exact own_lower HRR.out (by rw [← HB2.out]; exact HB.out.size)
end Go.Proofs.YtoefnmhmiphilaaGreatDoor.Tp

namespace Go.Proofs.YtoefnmhmiphilaaGreatDoor.Tp
open Go Go.RowKit Go.Maps Go.Proofs.YtoefnmhmiphilaaGreatDoorW.PrintWords
theorem bytes_eqD {A T : ByteArray} : (A.toList == T.toList) = decide (A.data.toList = T.data.toList) := by
  rw [ByteArray.toList_eq, ByteArray.toList_eq]
  by_cases h : A.data.toList = T.data.toList
  · rw [h]; simp
  · rw [decide_eq_false h, beq_eq_false_iff_ne]; exact h
theorem kp_get : ∀ (b : List Tr) (j s : Nat) (hj : j < b.length), (kp s b)[j]'(by rw [kp_length]; exact hj) = s + (flats (b.take j)).length + (flat b[j]).length - 1
  | t :: b, 0, s, _ => by simp [kp, flats]
  | t :: b, j + 1, s, hj => by
    have ih := kp_get b j (s + (flat t).length) (by simpa using hj)
    simp only [kp, List.getElem_cons_succ, List.take_succ_cons, flats, List.length_append]
    rw [ih]
    omega
theorem AtT.kid_at {o : List Nd} {i : Nat} {pre : List Nd} {n : Nd} {b : List Tr} (h : AtT o i pre (.mk n b)) (j : Nat) (hj : j < b.length) : AtT o ((kp pre.length b)[j]'(by rw [kp_length]; exact hj)) (pre ++ flats (b.take j)) b[j] := by
  rw [kp_get b j _ hj]
  have e : b = b.take j ++ b[j] :: b.drop (j + 1) := by rw [← List.drop_eq_getElem_cons hj, List.take_append_drop]
  have h1 : AtT o i pre (.mk n (b.take j ++ b[j] :: b.drop (j + 1))) := by rw [← e]; exact h
  exact h1.kid
def FC (f : Nat) : Prop := ∀ (W : World) (A : Option Addr) (n cap : Nat) (o : List Nd), Lst W A n o → ∀ (i : Nat) (pre : List Nd) (t : Tr), AtT o i pre t → i < f → ∀ d : Int, -100 ≤ d → d ≤ 100 →
  Calls Tryz.prog 30 #[.slice A n cap, .int .i64 (i : Int), .int .i64 d] W fun e W' => e = .returned (.bool (fineT t d)) ∧ Below W.heap.size W W'
theorem nodup_take {b : List Tr} {j : Nat} (hj : j < b.length) (h : ((b.take j).map Tr.key).Nodup) (hn : b[j].key ∉ (b.take j).map Tr.key) : ((b.take (j + 1)).map Tr.key).Nodup := by
  rw [List.take_succ_eq_append_getElem hj, List.map_append, List.nodup_append]
  refine ⟨h, by simp, ?_⟩
  intro a ha c hc e
  simp only [List.map_cons, List.map_nil, List.mem_singleton] at hc
  subst hc; subst e
  exact hn ha
theorem dup_keys {b : List Tr} {j m : Nat} (hj : j < b.length) (hm : m < j) (he : b[j].key = (b[m]'(by omega)).key) : decide ((b.map Tr.key).Nodup) = false := by
  refine decide_eq_false ?_
  intro h
  have := List.pairwise_iff_getElem.1 h m j (by simp; omega) (by simpa using hj) hm
  simp only [List.getElem_map] at this
  exact this he.symm
set_option maxHeartbeats 16000000 in
set_option maxRecDepth 100000 in
theorem fine_step (f : Nat) (ih : FC f) : FC (f + 1) := by
  intro W A n cap o hL i pre t hT hif d hd1 hd2
  have hin : i < n := by rw [← hL.len]; exact hT.lt
  obtain ⟨b, off, rfl, hns⟩ := hL.nv.some (by have := hT.lt; omega)
  have hio := hT.lt
  by_cases hneg : d < 0
  · have HF := Lib.hid (show fineT t d = false by cases t; rw [fineT, decide_eq_false (by omega)]; rfl)
    have d1 : decide (d < 0) = true := decide_eq_true hneg
    clear hL hT hns ih hneg
    go_enter Tryz.func30, Tryz.ntmps30
    go_wp2_with fail
    go_ret
    exact ⟨by rw [HF.out]; rfl, Below.refl _ _⟩
  · have CK := Lib.hid (kids_calls W _ n cap o hL i pre t hT)
    obtain ⟨nn, kids⟩ := t
    have hnode := hT.node
    simp only [Tr.nd] at hnode
    simp only [Tr.kids] at CK
    obtain ⟨m, hm⟩ : ∃ m, kids.length = m := ⟨_, rfl⟩
    rw [hm] at CK
    have hlen := hT.len
    have hml : m ≤ i := by
      rw [flat, List.length_append, List.length_singleton] at hlen
      have : kids.length ≤ (flats kids).length := by
        rw [flats_len]
        have : ∀ l : List Tr, l.length ≤ (l.map (fun t => (flat t).length)).sum := by
          intro l
          induction l with
          | nil => simp
          | cons u l ih => have := List.length_pos_iff.2 (flat_ne u); simp only [List.length_cons, List.map_cons, List.sum_cons]; omega
        exact this kids
      omega
    have hfew := hL.few
    have d1 : decide (d < 0) = false := decide_eq_false hneg
    have hi0 : (i : Int) < (n : Int) := by omega
    have HL := Lib.hid hL
    have HT := Lib.hid hT
    have HN := Lib.hid (show o[i]'hio = nn from hnode)
    have HM := Lib.hid hm
    have IH := Lib.hid ih
    obtain ⟨dk, hdk⟩ : ∃ dk : Int, (if nn.f0 = 6 then d else d - 1) = dk := ⟨_, rfl⟩
    have hdkb : -100 ≤ dk ∧ dk ≤ 100 := by rw [← hdk]; split <;> omega
    have HDK := Lib.hid hdk
    have HFT := Lib.hid (show fineT (.mk nn kids) d = (keysOk nn kids && fineTs kids dk && (nn.f0 == 6 || decide (1 ≤ d))) by rw [fineT, hdk, decide_eq_true (by omega), Bool.true_and])
    have hcase : (nn.f0 == 6) = true ∧ dk = d ∨ (nn.f0 == 6) = false ∧ dk = d - 1 := by
      by_cases h6 : nn.f0 = 6
      · left; rw [if_pos h6] at hdk; exact ⟨by simp [h6], hdk.symm⟩
      · right; rw [if_neg h6] at hdk; exact ⟨by simp [h6], hdk.symm⟩
    have HFIN := Lib.hid (show i ≤ f by omega)
    clear hL hT hns ih hneg hnode hm hlen hdk hif
    rcases hcase with ⟨c6, hc⟩ | ⟨c6, hc⟩
    case' inl => have CF : Hid (∀ (W1 : World), Below W.heap.size W W1 → ∀ (q : Nat) (pre' : List Nd) (u : Tr), AtT o q pre' u → q < f → Calls Tryz.prog 30 #[.slice (some ⟨b, off, none⟩) n cap, .int .i64 (q : Int), .int .i64 (d)] W1 fun e W' => e = .returned (.bool (fineT u dk)) ∧ Below W1.heap.size W1 W') := Lib.hid (fun W1 hb q pre' u hA hq => by rw [hc]; exact IH.out W1 _ n cap o (HL.out.below hb (Nat.le_refl _)) q pre' u hA hq _ (by omega) (by omega))
    case' inr => have CF : Hid (∀ (W1 : World), Below W.heap.size W W1 → ∀ (q : Nat) (pre' : List Nd) (u : Tr), AtT o q pre' u → q < f → Calls Tryz.prog 30 #[.slice (some ⟨b, off, none⟩) n cap, .int .i64 (q : Int), .int .i64 (d - 1)] W1 fun e W' => e = .returned (.bool (fineT u dk)) ∧ Below W1.heap.size W1 W') := Lib.hid (fun W1 hb q pre' u hA hq => by rw [hc]; exact IH.out W1 _ n cap o (HL.out.below hb (Nat.le_refl _)) q pre' u hA hq _ (by omega) (by omega))
    all_goals
      have c6b : (nn.f0 != 6) = !(nn.f0 == 6) := rfl
      rw [c6] at c6b
      simp only [Bool.not_true, Bool.not_false] at c6b
      clear hc hdkb
      go_enter Tryz.func30, Tryz.ntmps30
      go_wp2_with (first | (go_at_call 35; (with_reducible refine CK.out.mono ?_); rintro e1 W1 ⟨A1, cc, rfl, ho, hb⟩; have O1 := Lib.hid ho; have B1 := Lib.hid hb; have hLw := HL.out.below hb (Nat.le_refl _); obtain ⟨b', off', hbe, hns⟩ := hLw.nv.some (by rw [HL.out.len]; omega); cases hbe; obtain ⟨y0, y1, y2, y3⟩ := hns.at_ i hio; rw [HN.out] at y0 y1 y2 y3; clear ho hb hLw hns))
      clear y0 y1 y2 y3
      go_loopg [9] m (fun k v9 W' => ∃ j : Nat, v9 = .int .i64 (j : Int) ∧ Hid (k = m - j) ∧ Aside0 (j ≤ m) ∧ Hid (nn.f0 = 7 → ((kids.take j).map Tr.key).Nodup) ∧ Hid ((kids.take j).all (fun t => fineT t dk) = true) ∧ Hid (Below W.heap.size W W') ∧ Hid (W'.ownsRow W.heap.size 3 1 (.slice A1 m cc) m (nums .i64 (intsOf (kp pre.length kids)))))
      case atStart => exact ⟨0, rfl, Lib.hid rfl, ⟨Nat.zero_le _⟩, Lib.hid (by simp), Lib.hid (by simp), B1, O1⟩
      case round =>
        obtain ⟨j, rfl, HG, HJ, HU, HAll, HB, HO⟩ := hrel
        have hjm := HJ.out
        by_cases hj : j < m
        · have d2 : decide ((j : Int) < (m : Int)) = true := by simp; omega
          have hjk : j < kids.length := by rw [HM.out]; exact hj
          have hlk : (kp pre.length kids).length = m := by rw [kp_length, HM.out]
          have hjp : j < (intsOf (kp pre.length kids)).length := by simp [intsOf]; omega
          obtain ⟨bb, hA1, _⟩ := own_read HO.out j hjp
          subst hA1
          have hkj := HT.out.kid_at j hjk
          have hjl : j < (kp pre.length kids).length := by omega
          obtain ⟨pj, hpj⟩ : ∃ pj, (kp pre.length kids)[j]'hjl = pj := ⟨_, rfl⟩
          rw [hpj] at hkj
          obtain ⟨uj, huj⟩ : ∃ uj, kids[j]'hjk = uj := ⟨_, rfl⟩
          rw [huj] at hkj
          have hpo := hkj.lt
          have hpn : pj < n := by rw [← HL.out.len]; exact hpo
          have hpi : pj < i := by
            have h1 := hkj.len
            have h2 := HT.out.len
            rw [flat, List.length_append, List.length_singleton] at h2
            have h3 := flats_len_mem (t := uj) (b := kids) (by rw [← huj]; exact List.getElem_mem _)
            have e : kids = kids.take j ++ kids[j] :: kids.drop (j + 1) := by rw [← List.drop_eq_getElem_cons hjk, List.take_append_drop]
            have h4 : (flats kids).length = (flats (kids.take j)).length + ((flat kids[j]).length + (flats (kids.drop (j + 1))).length) := by
              have := congrArg (fun l => (flats l).length) e
              simp only [flats_append, flats, List.length_append] at this
              exact this
            rw [List.length_append] at h1
            rw [huj] at h4
            omega
          have HPJ := Lib.hid hpj
          have HUJ := Lib.hid huj
          have HKJ := Lib.hid hkj
          have CFJ := Lib.hid (fun W1 hb => CF.out W1 hb pj _ uj hkj (by have := HFIN.out; omega))
          have hpn2 : (pj : Int) < (n : Int) := by omega
          clear hkj hpj huj hlk
          go_wp2_with fail
          go_loopg [10] j (fun k v10 W' => ∃ q : Nat, v10 = .int .i64 (q : Int) ∧ Hid (k = j - q) ∧ Aside0 (q ≤ j) ∧ Hid (nn.f0 = 7 → uj.key ∉ (kids.take q).map Tr.key) ∧ Hid (Below W.heap.size W W') ∧ Hid (W'.ownsRow W.heap.size 3 1 (.slice (some ⟨bb, 0, none⟩) m cc) m (nums .i64 (intsOf (kp pre.length kids)))))
          case atStart => exact ⟨0, rfl, Lib.hid rfl, ⟨Nat.zero_le _⟩, Lib.hid (by simp), HB, HO⟩
          case round =>
            obtain ⟨q, rfl, HG2, HQ, HNI, HB2, HO2⟩ := hrel
            have hqj := HQ.out
            have hLw := HL.out.below HB2.out (Nat.le_refl _)
            obtain ⟨b', off', hbe, hns⟩ := hLw.nv.some (by rw [HL.out.len]; omega)
            cases hbe
            by_cases hq : q < j
            · have d3 : decide ((q : Int) < (j : Int)) = true := by simp; omega
              have hqk : q < kids.length := by omega
              have hqp : q < (intsOf (kp pre.length kids)).length := by simp [intsOf, kp_length]; omega
              obtain ⟨b1, hb1, rj⟩ := own_read HO2.out j hjp
              cases hb1
              obtain ⟨b1, hb1, rq⟩ := own_read HO2.out q hqp
              cases hb1
              have hkq := HT.out.kid_at q hqk
              obtain ⟨pq, hpq⟩ : ∃ pq, (kp pre.length kids)[q]'(by rw [kp_length]; exact hqk) = pq := ⟨_, rfl⟩
              rw [hpq] at hkq
              obtain ⟨uq, huq⟩ : ∃ uq, kids[q]'hqk = uq := ⟨_, rfl⟩
              rw [huq] at hkq
              have hqo := hkq.lt
              have hqn2 : (pq : Int) < (n : Int) := by have := HL.out.len; omega
              have vj : (intsOf (kp pre.length kids))[j] = (pj : Int) := by simp only [intsOf, List.getElem_map]; rw [HPJ.out]
              have vq : (intsOf (kp pre.length kids))[q] = (pq : Int) := by simp only [intsOf, List.getElem_map]; rw [hpq]
              rw [vj] at rj
              rw [vq] at rq
              obtain ⟨y0, y1, y2, y3⟩ := hns.at_ i hio
              rw [HN.out] at y0
              obtain ⟨z0, z1, z2, z3⟩ := hns.at_ pj hpo
              have nj : o[pj]'hpo = uj.nd := HKJ.out.node
              rw [nj] at z1
              obtain ⟨x0, x1, x2, x3⟩ := hns.at_ pq hqo
              have nq' : o[pq]'hqo = uq.nd := hkq.node
              rw [nq'] at x1
              have HUQ := Lib.hid huq
              clear y1 y2 y3 z0 z2 z3 x0 x2 x3 vj vq nj nq' hkq hpq huq hns hLw
              have hjm2 : (j : Int) < (m : Int) := by omega
              have hqm2 : (q : Int) < (m : Int) := by omega
              by_cases c7 : nn.f0 = 7
              · have t7 : (nn.f0 == 7) = true := by simp [c7]
                by_cases hke : uj.key = uq.key
                · have te : (uj.nd.f1.toList == uq.nd.f1.toList) = true := by rw [bytes_eqD]; exact decide_eq_true hke
                  have HFF := Lib.hid (show fineT (.mk nn kids) d = false by
                    rw [HFT.out]
                    have : keysOk nn kids = false := by
                      unfold keysOk
                      rw [c7, dup_keys hjk hq (by rw [HUJ.out, HUQ.out]; exact hke)]
                      rfl
                    rw [this]; rfl)
                  clear c7 hke
                  go_wp2_with fail
                  go_quiet (fail)
                  go_wp2_with fail
                  go_ret
                  exact ⟨by rw [HFF.out]; rfl, belN HB2.out _⟩
                · have te : (uj.nd.f1.toList == uq.nd.f1.toList) = false := by rw [bytes_eqD]; exact decide_eq_false hke
                  have HNI2 := Lib.hid (show nn.f0 = 7 → uj.key ∉ (kids.take (q + 1)).map Tr.key by
                    intro h
                    rw [List.take_succ_eq_append_getElem hqk, List.map_append, List.mem_append, not_or]
                    exact ⟨HNI.out h, by rw [HUQ.out]; simpa using hke⟩)
                  clear c7 hke
                  go_wp2_with fail
                  go_quiet (fail)
                  go_wp2_with fail
                  go_roundg (j - (q + 1))
                  case rel => exact ⟨q + 1, rfl, Lib.hid rfl, ⟨by omega⟩, HNI2, Lib.hid (belN HB2.out _), Lib.hid (own_bel HO2.out (belN (Below.refl _ _) _) (Nat.le_refl _))⟩
                  case measure => have := HG2.out; omega
              · have t7 : (nn.f0 == 7) = false := by simp [c7]
                have HNI2 := Lib.hid (show nn.f0 = 7 → uj.key ∉ (kids.take (q + 1)).map Tr.key from fun h => absurd h c7)
                clear c7
                go_wp2_with fail
                go_quiet (fail)
                go_wp2_with fail
                go_roundg (j - (q + 1))
                case rel => exact ⟨q + 1, rfl, Lib.hid rfl, ⟨by omega⟩, HNI2, Lib.hid (belN HB2.out _), Lib.hid (own_bel HO2.out (belN (Below.refl _ _) _) (Nat.le_refl _))⟩
                case measure => have := HG2.out; omega
            · have hqe : q = j := by omega
              subst hqe
              have d3 : decide ((q : Int) < (q : Int)) = false := by simp
              obtain ⟨b1, hb1, rj⟩ := own_read HO2.out q hjp
              cases hb1
              have vj : (intsOf (kp pre.length kids))[q] = (pj : Int) := by simp only [intsOf, List.getElem_map]; rw [HPJ.out]
              rw [vj] at rj
              have hjm2 : (q : Int) < (m : Int) := by omega
              have HU2 := Lib.hid (show nn.f0 = 7 → ((kids.take (q + 1)).map Tr.key).Nodup from fun h => nodup_take hjk (HU.out h) (by rw [HUJ.out]; exact HNI.out h))
              clear vj hns hLw
              cases hfu : fineT uj dk with
              | false =>
                rw [hfu] at CFJ
                have HFF := Lib.hid (show fineT (.mk nn kids) d = false by
                  rw [HFT.out]
                  have : fineTs kids dk = false := by
                    rw [fineTs_all, ← Bool.not_eq_true, List.all_eq_true]
                    intro h
                    have := h uj (by rw [← HUJ.out]; exact List.getElem_mem _)
                    rw [hfu] at this; cases this
                  rw [this, Bool.and_false]; rfl)
                clear hfu
                go_wp2_with (first | (go_at_call 30; (with_reducible refine (CFJ.out _ HB2.out).mono ?_); rintro e1 W4 ⟨rfl, hb⟩; have B4 := Lib.hid (HB2.out.trans (hb.mono HB2.out.size)); clear hb))
                go_ret
                exact ⟨by rw [HFF.out]; rfl, B4.out⟩
              | true =>
                rw [hfu] at CFJ
                have HA2 := Lib.hid (show (kids.take (q + 1)).all (fun t => fineT t dk) = true by
                  rw [List.take_succ_eq_append_getElem hjk, List.all_append, HAll.out, HUJ.out]
                  simp [hfu])
                clear hfu
                go_wp2_with (first | (go_at_call 30; (with_reducible refine (CFJ.out _ HB2.out).mono ?_); rintro e1 W4 ⟨rfl, hb⟩; have B4 := Lib.hid (HB2.out.trans (hb.mono HB2.out.size)); have O4 := Lib.hid (own_bel HO2.out hb (Nat.le_refl _)); clear hb))
                go_roundg (m - (q + 1))
                case rel => exact ⟨q + 1, rfl, Lib.hid rfl, ⟨by omega⟩, HU2, HA2, B4, O4⟩
                case measure => have := HG.out; omega
        · have hje : j = m := by omega
          subst hje
          have d2 : decide ((j : Int) < (j : Int)) = false := by simp
          have hLw := HL.out.below HB.out (Nat.le_refl _)
          obtain ⟨b', off', hbe, hns⟩ := hLw.nv.some (by rw [HL.out.len]; omega)
          cases hbe
          obtain ⟨y0, y1, y2, y3⟩ := hns.at_ i hio
          rw [HN.out] at y0
          have hkt : kids.take j = kids := List.take_of_length_le (by rw [HM.out]; exact Nat.le_refl _)
          have HFF := Lib.hid (show fineT (.mk nn kids) d = (nn.f0 == 6 || decide (1 ≤ d)) by
            rw [HFT.out]
            have h1 : keysOk nn kids = true := by
              unfold keysOk
              by_cases c7 : nn.f0 = 7
              · have := HU.out c7
                rw [hkt] at this
                rw [decide_eq_true this, Bool.or_true]
              · simp [c7]
            have h2 : fineTs kids dk = true := by
              have := HAll.out
              rw [hkt] at this
              rw [fineTs_all]; exact this
            rw [h1, h2]; simp)
          clear hns hLw hkt y1 y2 y3
          go_wp2_with fail
          go_ret
          exact ⟨by rw [HFF.out, c6]; rfl, HB.out⟩
theorem fine_all : ∀ f, FC f
  | 0 => fun _ _ _ _ _ _ _ _ _ _ h => absurd h (Nat.not_lt_zero _)
  | f + 1 => fine_step f (fine_all f)
end Go.Proofs.YtoefnmhmiphilaaGreatDoor.Tp

namespace Go.Proofs.YtoefnmhmiphilaaGreatDoor.Tp
open Go Go.RowKit Go.Maps Go.Proofs.YtoefnmhmiphilaaGreatDoorW.PrintWords
def errOf : Except Int Tr → Int
  | .ok _ => 0
  | .error e => e
set_option maxHeartbeats 4000000 in
set_option maxRecDepth 100000 in
theorem begin_neg (W : World) (A : Option Addr) (n cap : Nat) : Calls Tryz.prog 29 #[.slice A n cap, .int .i64 (-1)] W fun e W' => e = .returned (.int .i64 (-1)) ∧ W' = W := by
  go_enter Tryz.func29, Tryz.ntmps29
  go_wp2_with fail
  go_ret
  exact ⟨rfl, rfl⟩
set_option maxHeartbeats 8000000 in
set_option maxRecDepth 100000 in
theorem rcheck_calls (W : World) (A : Option Addr) (n cap : Nat) (o : List Nd) (hL : Lst W A n o) : Calls Tryz.prog 16 #[.slice A n cap] W fun e W' => e = .returned (.int .i64 (errOf (apart o))) ∧ Below W.heap.size W W' := by
  have hlen := hL.len
  have hfew := hL.few
  by_cases hbig : 2000 < n
  · have d1 : decide ((2000 : Int) < (n : Int)) = true := by simp; omega
    have HF := Lib.hid (show errOf (apart o) = 2 by unfold apart; rw [if_pos (by omega)]; rfl)
    clear hL hlen hbig
    go_enter Tryz.func16, Tryz.ntmps16
    go_wp2_with fail
    go_ret
    exact ⟨by rw [HF.out]; rfl, Below.refl _ _⟩
  · have d1 : decide ((2000 : Int) < (n : Int)) = false := by simp; omega
    cases n with
    | zero =>
      have ho : o = [] := List.eq_nil_of_length_eq_zero hlen
      have HF := Lib.hid (show errOf (apart o) = 20 by rw [ho]; rfl)
      have CB := Lib.hid (fun W => begin_neg W A 0 cap)
      clear hL hlen hbig ho d1
      go_enter Tryz.func16, Tryz.ntmps16
      go_wp2_with (first | (go_at_call 29; refine (CB.out _).mono ?_; rintro e1 W1 ⟨rfl, hw⟩; have hw2 := hw.symm; clear hw; subst hw2))
      go_ret
      exact ⟨by rw [HF.out]; rfl, Below.refl _ _⟩
    | succ i =>
      have hio : i < o.length := by omega
      have CB := Lib.hid (begin_all (i + 1) W A (i + 1) cap o hL i (Nat.lt_succ_self i) (Nat.lt_succ_self i))
      have htk : o.take (i + 1) = o := List.take_of_length_le (by omega)
      rw [htk] at CB
      have hl2 : o.length ≤ 2000 := by omega
      have HL := Lib.hid hL
      have e1 : decide ((2000 : Int) < (i : Int) + 1) = false := by simp; omega
      have hi2 : (i : Int) < (i : Int) + 1 := by omega
      by_cases hb : bg (i + 1) o.reverse = some []
      · obtain ⟨t, hA, hf⟩ := bg_inv _ _ _ hb
        rw [List.append_nil, List.reverse_inj] at hf
        have hT : AtT o i [] t := ⟨by rw [htk, hf]; rfl, hA, hio⟩
        have hap := apart_of hl2 hA hf.symm
        rw [hb, show bgI (some []) = 0 from rfl] at CB
        have hnode := hT.node
        have HN := Lib.hid (show o[i]'hio = t.nd from hnode)
        obtain ⟨b, off, rfl, hns⟩ := hL.nv.some (by omega)
        clear hns hnode hbig hb htk hlen hf hA d1
        by_cases h6 : t.nd.f0 = 6
        · have t6 : (t.nd.f0 == 6) = true := by simp [h6]
          have HF := Lib.hid (show errOf (apart o) = 20 by rw [hap, if_neg (fun h => h.1 h6)]; rfl)
          clear hap h6 hT hL
          go_enter Tryz.func16, Tryz.ntmps16
          go_wp2_with (first | (go_at_call 29; refine CB.out.mono ?_; rintro e1 W1 ⟨rfl, hb⟩; have B1 := Lib.hid hb; have hLw := HL.out.below hb (Nat.le_refl _); obtain ⟨b', off', hbe, hns⟩ := hLw.nv.some (by omega); cases hbe; obtain ⟨y0, y1, y2, y3⟩ := hns.at_ i hio; rw [HN.out] at y0 y1 y2 y3; clear hb hLw hns))
          go_ret
          exact ⟨by rw [HF.out]; rfl, B1.out⟩
        · have t6 : (t.nd.f0 == 6) = false := by simp [h6]
          have CF := Lib.hid (fun W1 (hb : Below W.heap.size W W1) => fine_all (i + 1) W1 _ (i + 1) cap o (hL.below hb (Nat.le_refl _)) i [] t hT (Nat.lt_succ_self i) 20 (by decide) (by decide))
          cases hft : fineT t 20 with
          | false =>
            rw [hft] at CF
            have HF := Lib.hid (show errOf (apart o) = 20 by rw [hap, if_neg (fun h => by rw [h.2] at hft; cases hft)]; rfl)
            clear hap h6 hT hL hft
            go_enter Tryz.func16, Tryz.ntmps16
            go_wp2_with (first | (go_at_call 29; refine CB.out.mono ?_; rintro e1 W1 ⟨rfl, hb⟩; have B1 := Lib.hid hb; have hLw := HL.out.below hb (Nat.le_refl _); obtain ⟨b', off', hbe, hns⟩ := hLw.nv.some (by omega); cases hbe; obtain ⟨y0, y1, y2, y3⟩ := hns.at_ i hio; rw [HN.out] at y0 y1 y2 y3; clear hb hLw hns) | (go_at_call 30; refine (CF.out _ B1.out).mono ?_; rintro e1 W2 ⟨rfl, hb⟩; have B2 := Lib.hid (B1.out.trans (hb.mono B1.out.size)); clear hb))
            go_ret
            exact ⟨by rw [HF.out]; rfl, B2.out⟩
          | true =>
            rw [hft] at CF
            have HF := Lib.hid (show errOf (apart o) = 0 by rw [hap, if_pos ⟨h6, hft⟩]; rfl)
            clear hap h6 hT hL hft
            go_enter Tryz.func16, Tryz.ntmps16
            go_wp2_with (first | (go_at_call 29; refine CB.out.mono ?_; rintro e1 W1 ⟨rfl, hb⟩; have B1 := Lib.hid hb; have hLw := HL.out.below hb (Nat.le_refl _); obtain ⟨b', off', hbe, hns⟩ := hLw.nv.some (by omega); cases hbe; obtain ⟨y0, y1, y2, y3⟩ := hns.at_ i hio; rw [HN.out] at y0 y1 y2 y3; clear hb hLw hns) | (go_at_call 30; refine (CF.out _ B1.out).mono ?_; rintro e1 W2 ⟨rfl, hb⟩; have B2 := Lib.hid (B1.out.trans (hb.mono B1.out.size)); clear hb))
            go_ret
            exact ⟨by rw [HF.out]; rfl, B2.out⟩
      · have HF := Lib.hid (show errOf (apart o) = 20 by rw [apart_none hl2 (by rw [show o.length = i + 1 by omega]; exact hb)]; rfl)
        have hne : (bgI (bg (i + 1) o.reverse) != 0) = true := by
          cases hbb : bg (i + 1) o.reverse with
          | none => rfl
          | some r =>
            cases r with
            | nil => exact absurd hbb hb
            | cons x r => simp [bgI]; omega
        obtain ⟨z, hz⟩ : ∃ z, bgI (bg (i + 1) o.reverse) = z := ⟨_, rfl⟩
        rw [hz] at CB hne
        clear hz hb hL hlen htk hbig d1
        go_enter Tryz.func16, Tryz.ntmps16
        go_wp2_with (first | (go_at_call 29; refine CB.out.mono ?_; rintro e1 W1 ⟨rfl, hb⟩; have B1 := Lib.hid hb; clear hb))
        go_ret
        exact ⟨by rw [HF.out]; rfl, B1.out⟩
end Go.Proofs.YtoefnmhmiphilaaGreatDoor.Tp

namespace Go.Proofs.YtoefnmhmiphilaaGreatDoor.Tp
open Go Go.RowKit Go.Maps Go.Proofs.YtoefnmhmiphilaaGreatDoorW.PrintWords
section
variable {α : Type}
def insBy (key : α → List UInt8) (x : α) : List α → List α
  | [] => [x]
  | y :: l => if Op.bytesLess (key x) (key y) then x :: y :: l else y :: insBy key x l
def byK (key : α → List UInt8) (l : List α) : List α := l.foldl (fun o x => insBy key x o) []
theorem insBy_map {β : Type} (f : α → β) (key : β → List UInt8) (x : α) : ∀ l, insBy key (f x) (l.map f) = (insBy (fun a => key (f a)) x l).map f
  | [] => rfl
  | y :: l => by
    simp only [List.map_cons, insBy]
    split
    · rfl
    · rw [List.map_cons, insBy_map f key x l]
theorem byK_map' {β : Type} (f : α → β) (key : β → List UInt8) : ∀ (l o : List α), (l.map f).foldl (fun o x => insBy key x o) (o.map f) = (l.foldl (fun o x => insBy (fun a => key (f a)) x o) o).map f
  | [], o => rfl
  | x :: l, o => by simp only [List.map_cons, List.foldl_cons, insBy_map]; exact byK_map' f key l _
theorem byK_map {β : Type} (f : α → β) (key : β → List UInt8) (l : List α) : byK key (l.map f) = (byK (fun a => key (f a)) l).map f := byK_map' f key l []
theorem insBy_at {key : α → List UInt8} {x : α} : ∀ (l : List α) (m : Nat), (∀ y ∈ l.take m, Op.bytesLess (key x) (key y) = false) → insBy key x l = l.take m ++ insBy key x (l.drop m)
  | [], m, _ => by simp
  | y :: l, 0, _ => by simp
  | y :: l, m + 1, h => by
    have h0 := h y (by simp)
    simp only [List.take_succ_cons, List.drop_succ_cons, List.cons_append]
    rw [insBy, if_neg (by rw [h0]; simp), insBy_at l m (fun z hz => h z (by simp [hz]))]
theorem insBy_length (key : α → List UInt8) (x : α) : ∀ l, (insBy key x l).length = l.length + 1
  | [] => rfl
  | y :: l => by
    unfold insBy
    split
    · rfl
    · rw [List.length_cons, insBy_length key x l, List.length_cons]
theorem insBy_mem {key : α → List UInt8} {x : α} {z : α} : ∀ {l : List α}, z ∈ insBy key x l → z = x ∨ z ∈ l
  | [], h => .inl (by simpa [insBy] using h)
  | y :: l, h => by
    unfold insBy at h
    split at h
    · rcases List.mem_cons.1 h with e | h
      · exact .inl e
      · exact .inr h
    · rcases List.mem_cons.1 h with e | h
      · exact .inr (by simp [e])
      · rcases insBy_mem h with e | h
        · exact .inl e
        · exact .inr (by simp [h])
theorem byK_step (key : α → List UInt8) (l : List α) (j : Nat) (hj : j < l.length) : byK key (l.take (j + 1)) = insBy key l[j] (byK key (l.take j)) := by
  unfold byK
  rw [List.take_succ_eq_append_getElem hj, List.foldl_append]; rfl
theorem byK_mem {key : α → List UInt8} {z : α} (l : List α) (h : z ∈ byK key l) : z ∈ l := by
  have : ∀ (l o : List α), z ∈ l.foldl (fun o x => insBy key x o) o → z ∈ l ∨ z ∈ o := by
    intro l
    induction l with
    | nil => intro o h; exact .inr h
    | cons x l ih =>
      intro o h
      rcases ih _ h with h | h
      · exact .inl (by simp [h])
      · rcases insBy_mem h with e | h
        · exact .inl (by simp [e])
        · exact .inr h
  rcases this l [] h with h | h
  · exact h
  · cases h
theorem byK_length (key : α → List UInt8) (l : List α) : (byK key l).length = l.length := by
  have : ∀ (l o : List α), (l.foldl (fun o x => insBy key x o) o).length = l.length + o.length := by
    intro l
    induction l with
    | nil => intro o; simp
    | cons x l ih => intro o; simp only [List.foldl_cons, ih, insBy_length, List.length_cons]; omega
  have := this l []
  unfold byK
  simpa using this
end
theorem byKey_eq (b : List Tr) : byKey b = byK Tr.key b := by
  have h : ∀ t l, insKey t l = insBy Tr.key t l := by
    intro t l
    induction l with
    | nil => rfl
    | cons u l ih => unfold insKey insBy; rw [ih]
  unfold byKey byK
  congr 1
  funext o t
  exact h t o
abbrev PT := Nat × Tr
def pk (p : PT) : List UInt8 := p.2.key
def posOf (l : List PT) : List Int := intsOf (l.map (fun p : PT => p.1))
def Pts (o : List Nd) (l : List PT) : Prop := ∀ p ∈ l, ∃ h : p.1 < o.length, o[p.1]'h = p.2.nd
theorem posOf_get (l : List PT) (j : Nat) (hj : j < l.length) : (posOf l)[j]'(by simp [posOf, intsOf]; exact hj) = ((l[j].1 : Nat) : Int) := by simp [posOf, intsOf]
theorem posOf_len (l : List PT) : (posOf l).length = l.length := by simp [posOf, intsOf]
theorem posOf_snoc (l : List PT) (p : PT) : posOf l ++ [(p.1 : Int)] = posOf (l ++ [p]) := by simp [posOf, intsOf]
set_option maxHeartbeats 16000000 in
set_option maxRecDepth 100000 in
theorem bykey_calls (W : World) (A : Option Addr) (n cap : Nat) (o : List Nd) (hL : Lst W A n o) (Bk m cc : Nat) (A1 : Option Addr) (l : List PT) (hm : l.length = m) (hmn : m ≤ n) (hP : Pts o l) (hk : W.ownsRow Bk 3 1 (.slice A1 m cc) m (nums .i64 (posOf l))) :
    Calls Tryz.prog 72 #[.slice A n cap, .slice A1 m cc] W fun e W' => ∃ A' c, e = .returned (.slice A' m c) ∧ W'.ownsRow W.heap.size 3 1 (.slice A' m c) m (nums .i64 (posOf (byK pk l))) ∧ Below W.heap.size W W' := by
  have hfew := hL.few
  have HL := Lib.hid hL
  have HM := Lib.hid hm
  have HP := Lib.hid hP
  have HKO := Lib.hid hk
  have hb0 : 0 < m → ∃ b off, A = some ⟨b, off, none⟩ := fun h0 => by
    obtain ⟨b, off, e, _⟩ := hL.nv.some (by rw [hL.len]; omega)
    exact ⟨b, off, e⟩
  have HB0 := Lib.hid hb0
  obtain ⟨B0, hB0⟩ : ∃ B0, W.heap.size = B0 := ⟨_, rfl⟩
  have HBB := Lib.hid hB0
  rw [hB0]
  clear hL hm hP hk hb0 hB0
  go_enter Tryz.func72, Tryz.ntmps72
  go_wp2_with fail
  go_loopg [5, 6] m (fun k v5 v6 W' => ∃ (j : Nat) (A5 : Option Addr) (c5 : Nat), v5 = .slice A5 j c5 ∧ v6 = .int .i64 (j : Int) ∧ Hid (k = m - j) ∧ Aside0 (j ≤ m) ∧ Hid (W'.ownsRow B0 3 1 (.slice A5 j c5) j (nums .i64 (posOf (byK pk (l.take j))))) ∧ Hid (Below B0 W W'))
  case atStart => exact ⟨0, none, 0, rfl, rfl, Lib.hid rfl, ⟨Nat.zero_le _⟩, Lib.hid (own_nil _ _ _ _), Lib.hid (Below.refl _ _)⟩
  case round =>
    obtain ⟨j, A5, c5, rfl, rfl, HG, HJ, HO, HB⟩ := hrel
    have hjm := HJ.out
    by_cases hj : j < m
    · have d2 : decide ((j : Int) < (m : Int)) = true := by simp; omega
      have hjl : j < l.length := by rw [HM.out]; exact hj
      obtain ⟨x, hx⟩ : ∃ x, l[j]'hjl = x := ⟨_, rfl⟩
      obtain ⟨L, hLL⟩ : ∃ L, byK pk (l.take j) = L := ⟨_, rfl⟩
      have hLlen : L.length = j := by rw [← hLL, byK_length, List.length_take]; omega
      have hPx := HP.out x (by rw [← hx]; exact List.getElem_mem _)
      have hPL : Pts o L := fun p hp => HP.out p (List.mem_of_mem_take (byK_mem _ (hLL ▸ hp)))
      have hst := byK_step pk l j hjl
      rw [hx, hLL] at hst
      have hO := HO.out
      rw [hLL] at hO
      have hkr : wr.ownsRow Bk 3 1 (.slice A1 m cc) m (nums .i64 (posOf l)) := own_bel HKO.out HB.out (Nat.le_of_eq HBB.out)
      have hjp : j < (posOf l).length := by rw [posOf_len]; exact hjl
      obtain ⟨bk, hbk, _⟩ := own_read hkr j hjp
      subst hbk
      obtain ⟨b, off, hAb⟩ := HB0.out (by omega)
      subst hAb
      obtain ⟨hxo, hxn⟩ := hPx
      obtain ⟨px, ux⟩ := x
      simp only at hxo hxn
      have vx : (posOf l)[j]'hjp = (px : Int) := by rw [posOf_get l j hjl, hx]
      have VX := Lib.hid vx
      have HST := Lib.hid hst
      have HO2 := Lib.hid hO
      have HKR := Lib.hid hkr
      have HPL := Lib.hid hPL
      have HLl := Lib.hid hLlen
      have HXN := Lib.hid hxn
      obtain ⟨B2, hB2⟩ : ∃ B2, wr.heap.size = B2 := ⟨_, rfl⟩
      have HB2 := Lib.hid hB2
      have hpn : (px : Int) < (n : Int) := by have := HL.out.len; omega
      have hjm2 : (j : Int) < (m : Int) := by omega
      clear hx hLL hLlen hPL hst hO hkr vx hB2 hxn
      go_wp2_with fail
      go_loopg [7, 8, 9] j (fun k v7 v8 v9 W' => ∃ (q : Nat) (ib : Bool) (nx : List PT) (nn : Nat) (A7 : Option Addr) (c7 : Nat), v7 = .slice A7 nn c7 ∧ v8 = .bool ib ∧ v9 = .int .i64 (q : Int) ∧ Hid (k = j - q) ∧ Aside0 (q ≤ j ∧ nn ≤ q + 1) ∧ Hid (nx.length = nn) ∧ Hid (W'.ownsRow B2 3 1 (.slice A7 nn c7) nn (nums .i64 (posOf nx))) ∧ Hid (Below B2 wr W') ∧ Hid (ib = true → insBy pk (px, ux) L = nx ++ L.drop q) ∧ Hid (ib = false → nx = L.take q ∧ ∀ y ∈ L.take q, Op.bytesLess ux.key (pk y) = false))
      case atStart => exact ⟨0, false, [], 0, none, 0, rfl, rfl, rfl, Lib.hid rfl, ⟨Nat.zero_le _, by omega⟩, Lib.hid rfl, Lib.hid (own_nil _ _ _ _), Lib.hid (Below.refl _ _), Lib.hid (fun h => by cases h), Lib.hid (fun _ => ⟨by simp, by simp⟩)⟩
      case round =>
        obtain ⟨q, ib, nx, nn, A7, c7, rfl, rfl, rfl, HG2, HQ, HNX, HR, HC, HI1, HI2⟩ := hrel
        have hqj := HQ.out
        have hkr2 := own_bel HKR.out HC.out (Nat.le_of_eq HB2.out)
        have hO2 := own_bel HO2.out HC.out (Nat.le_of_eq HB2.out)
        obtain ⟨b1, hb1, rj⟩ := own_read hkr2 j hjp
        cases hb1
        rw [VX.out] at rj
        have hLw := (HL.out.below HB.out (Nat.le_of_eq HBB.out)).below HC.out (Nat.le_of_eq HB2.out)
        obtain ⟨b', off', hbe, hns⟩ := hLw.nv.some (by rw [HL.out.len]; omega)
        cases hbe
        obtain ⟨z0, z1, z2, z3⟩ := hns.at_ px hxo
        rw [HXN.out] at z1
        have hnn : nn ≤ 4294967296 := by omega
        by_cases hq : q < j
        · have d3 : decide ((q : Int) < (j : Int)) = true := by simp; omega
          have hqL : q < L.length := by rw [HLl.out]; exact hq
          have hqp : q < (posOf L).length := by rw [posOf_len]; exact hqL
          obtain ⟨b5, hb5, rq⟩ := own_read hO2 q hqp
          subst hb5
          obtain ⟨y, hy⟩ : ∃ y, L[q]'hqL = y := ⟨_, rfl⟩
          have vq : (posOf L)[q]'hqp = (y.1 : Int) := by rw [posOf_get L q hqL, hy]
          rw [vq] at rq
          obtain ⟨hyo, hyn⟩ := HPL.out y (by rw [← hy]; exact List.getElem_mem _)
          obtain ⟨x0, x1, x2, x3⟩ := hns.at_ y.1 hyo
          rw [hyn] at x1
          have hyn2 : (y.1 : Int) < (n : Int) := by have := HL.out.len; omega
          have VQ := Lib.hid vq
          have HY := Lib.hid hy
          have hqj2 : (q : Int) < (j : Int) := by omega
          clear z0 z2 z3 x0 x2 x3 vq hy hns hLw hyn hkr2 hO2
          have HDR := Lib.hid (show L.drop q = y :: L.drop (q + 1) by rw [List.drop_eq_getElem_cons hqL, HY.out])
          cases ib with
          | true =>
            have HIN := Lib.hid (HI1.out rfl)
            go_wp2_with fail
            go_quiet (fail)
            go_wp2_with (first | (at_builtin; refine print_append_num B2 rfl (.tmp 50) (.tmp 55) 60 3 .i64 8 rfl Tryz.underlying60 info_int (by decide) _ (posOf (nx)) ((y).1 : Int) rfl rfl ?hoa (belN HC.out _) ?hba ?hla ?_; (case hoa => rw [posOf_len, HNX.out]; exact own_bel HR.out (belN (Below.refl _ _) _) (Nat.le_refl _)); (case hba => rw [← HB2.out]; exact ((belN HC.out _)).size); (case hla => rw [posOf_len, HNX.out]; omega); intro v1 w1 ho hbel hgr hat; rw [posOf_snoc, posOf_len, List.length_append, List.length_singleton, HNX.out] at ho; obtain ⟨ga, capa, rfl⟩ := own_form ho; have Oa := Lib.hid ho; have Ba := Lib.hid hbel; clear ho hbel hgr hat))
            go_roundg (j - (q + 1))
            case rel => exact ⟨q + 1, true, nx ++ [y], nn + 1, _, _, rfl, rfl, rfl, Lib.hid rfl, ⟨by omega, by omega⟩, Lib.hid (by rw [List.length_append, HNX.out]; rfl), Oa, Ba, Lib.hid (fun _ => by rw [HIN.out, HDR.out]; simp), Lib.hid (fun h => by cases h)⟩
            case measure => have := HG2.out; omega
          | false =>
            obtain ⟨hnx, hall⟩ := HI2.out rfl
            have HNE := Lib.hid hnx
            have HALL := Lib.hid hall
            clear hnx hall
            cases hlt : Op.bytesLess ux.nd.f1.toList y.2.nd.f1.toList with
            | true =>
              have HLT := Lib.hid (show Op.bytesLess ux.key (pk y) = true by unfold pk Tr.key; rw [← ByteArray.toList_eq, ← ByteArray.toList_eq]; exact hlt)
              go_wp2_with fail
              go_quiet (fail)
              go_wp2_with (first | (at_builtin; refine print_append_num B2 rfl (.tmp 43) (.tmp 48) 60 3 .i64 8 rfl Tryz.underlying60 info_int (by decide) _ (posOf (nx)) (((px, ux)).1 : Int) rfl rfl ?hob (belN HC.out _) ?hbb ?hlb ?_; (case hob => rw [posOf_len, HNX.out]; exact own_bel HR.out (belN (Below.refl _ _) _) (Nat.le_refl _)); (case hbb => rw [← HB2.out]; exact ((belN HC.out _)).size); (case hlb => rw [posOf_len, HNX.out]; omega); intro v1 w1 ho hbel hgr hat; rw [posOf_snoc, posOf_len, List.length_append, List.length_singleton, HNX.out] at ho; obtain ⟨gb, capb, rfl⟩ := own_form ho; have Ob := Lib.hid ho; have Bb := Lib.hid hbel; obtain ⟨b9, hb9, rq'⟩ := own_read (own_bel HO2.out hbel (Nat.le_of_eq HB2.out)) q hqp; cases hb9; rw [VQ.out] at rq'; clear ho hbel hgr hat) | (at_builtin; refine print_append_num B2 rfl (.tmp 50) (.tmp 55) 60 3 .i64 8 rfl Tryz.underlying60 info_int (by decide) _ (posOf (nx ++ [(px, ux)])) ((y).1 : Int) rfl rfl ?hoc Bb.out ?hbc ?hlc ?_; (case hoc => rw [posOf_len, List.length_append, List.length_singleton, HNX.out]; exact Ob.out); (case hbc => rw [← HB2.out]; exact (Bb.out).size); (case hlc => rw [posOf_len, List.length_append, List.length_singleton, HNX.out]; omega); intro v1 w1 ho hbel hgr hat; rw [posOf_snoc, posOf_len, List.length_append, List.length_singleton, List.length_append, List.length_singleton, HNX.out] at ho; obtain ⟨gc, capc, rfl⟩ := own_form ho; have Oc := Lib.hid ho; have Bc := Lib.hid hbel; clear ho hbel hgr hat))
              go_roundg (j - (q + 1))
              case rel => exact ⟨q + 1, true, nx ++ [(px, ux)] ++ [y], nn + 1 + 1, _, _, rfl, rfl, rfl, Lib.hid rfl, ⟨by omega, by have := HNX.out; have h2 := HNE.out; rw [h2, List.length_take] at this; omega⟩, Lib.hid (by rw [List.length_append, List.length_append, HNX.out]; rfl), Oc, Bc, Lib.hid (fun _ => by
                rw [insBy_at L q HALL.out, HDR.out, insBy, if_pos (show Op.bytesLess (pk (px, ux)) (pk y) = true from HLT.out), HNE.out]; simp), Lib.hid (fun h => by cases h)⟩
              case measure => have := HG2.out; omega
            | false =>
              have HLT := Lib.hid (show Op.bytesLess ux.key (pk y) = false by unfold pk Tr.key; rw [← ByteArray.toList_eq, ← ByteArray.toList_eq]; exact hlt)
              go_wp2_with fail
              go_quiet (fail)
              go_wp2_with (first | (at_builtin; refine print_append_num B2 rfl (.tmp 50) (.tmp 55) 60 3 .i64 8 rfl Tryz.underlying60 info_int (by decide) _ (posOf (nx)) ((y).1 : Int) rfl rfl ?hoa (belN HC.out _) ?hba ?hla ?_; (case hoa => rw [posOf_len, HNX.out]; exact own_bel HR.out (belN (Below.refl _ _) _) (Nat.le_refl _)); (case hba => rw [← HB2.out]; exact ((belN HC.out _)).size); (case hla => rw [posOf_len, HNX.out]; omega); intro v1 w1 ho hbel hgr hat; rw [posOf_snoc, posOf_len, List.length_append, List.length_singleton, HNX.out] at ho; obtain ⟨ga, capa, rfl⟩ := own_form ho; have Oa := Lib.hid ho; have Ba := Lib.hid hbel; clear ho hbel hgr hat))
              go_roundg (j - (q + 1))
              case rel => exact ⟨q + 1, false, nx ++ [y], nn + 1, _, _, rfl, rfl, rfl, Lib.hid rfl, ⟨by omega, by omega⟩, Lib.hid (by rw [List.length_append, HNX.out]; rfl), Oa, Ba, Lib.hid (fun h => by cases h), Lib.hid (fun _ => by
                rw [List.take_succ_eq_append_getElem hqL, HY.out, HNE.out]
                refine ⟨rfl, fun z hz => ?_⟩
                rcases List.mem_append.1 hz with hz | hz
                · exact HALL.out z hz
                · rw [List.mem_singleton] at hz; rw [hz]; exact HLT.out)⟩
              case measure => have := HG2.out; omega
        · have hqe : q = j := by omega
          subst hqe
          have d3 : decide ((q : Int) < (q : Int)) = false := by simp
          clear z0 z1 z2 z3 hns hLw hkr2 hO2
          cases ib with
          | true =>
            have HFI := Lib.hid (show insBy pk (px, ux) L = nx by rw [HI1.out rfl, List.drop_of_length_le (by rw [HLl.out]; exact Nat.le_refl _), List.append_nil])
            have hnn2 : nn = q + 1 := by
              have := congrArg List.length HFI.out
              rw [insBy_length, HLl.out, HNX.out] at this; omega
            subst hnn2
            go_wp2_with fail
            go_roundg (m - (q + 1))
            case rel => exact ⟨q + 1, _, _, rfl, rfl, Lib.hid rfl, ⟨by omega⟩, Lib.hid (by rw [HST.out, HFI.out]; exact own_lower HR.out (by rw [← HB2.out, ← HBB.out]; exact HB.out.size)), Lib.hid (HB.out.trans (HC.out.mono (by rw [← HB2.out, ← HBB.out]; exact HB.out.size)))⟩
            case measure => have := HG.out; omega
          | false =>
            obtain ⟨hnx, hall⟩ := HI2.out rfl
            rw [List.take_of_length_le (by rw [HLl.out]; exact Nat.le_refl _)] at hnx hall
            have HFI := Lib.hid (show insBy pk (px, ux) L = nx ++ [(px, ux)] by
              rw [insBy_at L q (by rw [List.take_of_length_le (by rw [HLl.out]; exact Nat.le_refl _)]; exact hall), List.take_of_length_le (by rw [HLl.out]; exact Nat.le_refl _), List.drop_of_length_le (by rw [HLl.out]; exact Nat.le_refl _), hnx]; rfl)
            have hnn2 : nn = q := by have := HNX.out; rw [hnx, HLl.out] at this; omega
            subst hnn2
            clear hnx hall
            go_wp2_with (first | (at_builtin; refine print_append_num B2 rfl (.tmp 59) (.tmp 64) 60 3 .i64 8 rfl Tryz.underlying60 info_int (by decide) _ (posOf (nx)) (((px, ux)).1 : Int) rfl rfl ?hod HC.out ?hbd ?hld ?_; (case hod => rw [posOf_len, HNX.out]; exact HR.out); (case hbd => rw [← HB2.out]; exact (HC.out).size); (case hld => rw [posOf_len, HNX.out]; omega); intro v1 w1 ho hbel hgr hat; rw [posOf_snoc, posOf_len, List.length_append, List.length_singleton, HNX.out] at ho; obtain ⟨gd, capd, rfl⟩ := own_form ho; have Od := Lib.hid ho; have Bd := Lib.hid hbel; clear ho hbel hgr hat))
            go_roundg (m - (nn + 1))
            case rel => exact ⟨nn + 1, _, _, rfl, rfl, Lib.hid rfl, ⟨by omega⟩, Lib.hid (by rw [HST.out, HFI.out]; exact own_lower Od.out (by rw [← HB2.out, ← HBB.out]; exact HB.out.size)), Lib.hid (HB.out.trans (Bd.out.mono (by rw [← HB2.out, ← HBB.out]; exact HB.out.size)))⟩
            case measure => have := HG.out; omega
    · have hje : j = m := by omega
      subst hje
      have d2 : decide ((j : Int) < (j : Int)) = false := by simp
      have hO := HO.out
      rw [List.take_of_length_le (by rw [HM.out]; exact Nat.le_refl _)] at hO
      have HOO := Lib.hid hO
      clear hO
      go_wp2_with fail
      go_ret
      exact ⟨_, _, rfl, HOO.out, HB.out⟩
end Go.Proofs.YtoefnmhmiphilaaGreatDoor.Tp

namespace Go.Proofs.YtoefnmhmiphilaaGreatDoor.Tp
open Go Go.RowKit Go.Maps Go.Proofs.YtoefnmhmiphilaaGreatDoorW.PrintWords
section
variable {ops : Array Oper} {rest : List Oper} {o : Oper} {a : Act} {Q : Exit → Act → World → Prop}
theorem append_nodes {w0 W : World} (base : Nat) (hgd : o.guard = none) (s x : Operand) (ho : o.op = .call { callee := .builtin .append, args := #[s, x], argTypes := #[22, 22] })
    (v : Value) (n : Nat) (os ns : List Nd) (g m c : Nat) (hs : a.eval s = v) (hx : a.eval x = .slice (some ⟨g, 0, none⟩) m c) (hm : ns.length = m) (hr : Row W g ns)
    (HO : W.ownsRow base 32 4 v n (encs os)) (HB : Below base w0 W) (hbase : base ≤ W.heap.size) (hl : n + m ≤ 4294967296) (k : Nat) (hk : n + m = k)
    (h : ∀ v1 w1, w1.ownsRow base 32 4 v1 k (encs (os ++ ns)) → Below base w0 w1 → wpList Tryz.prog ops Q rest (a.put o.dst v1) w1) :
    wpList Tryz.prog ops Q (o :: rest) a W := by
  subst hk
  obtain ⟨i0, hi, hzz⟩ := Option.map_eq_some_iff.1 info_node
  simp only [Prod.mk.injEq] at hzz
  obtain ⟨hz0, hz1, hz2⟩ := hzz
  have hone : ∀ u ∈ encs ns, u.oneCell' = true := by
    intro u hu
    unfold encs at hu
    obtain ⟨nd, _, h2⟩ := List.mem_flatMap.1 hu
    simp [cellsN] at h2
    rcases h2 with rfl | rfl | rfl | rfl <;> rfl
  refine wpList_append_own_at W hgd s x 22 ho base 32 i0 (.agg #[.int .i64 0, .string ⟨#[]⟩, .int .i64 0, .int .i64 0]) 4 40 Tryz.underlying22 hi hz0 hz1 hz2 rfl (by decide) v n (encs os) hs HO ⟨g, 0, none⟩ m c (encs ns) hx (by rw [encs_len, hm])
    (fun j u hj => ?_) hone (by simp only [maxLen]; omega) (by omega) hbase ?_
  · have hj' : j < ns.length * 4 := by
      have := (List.getElem?_eq_some_iff.1 hj).1
      rwa [encs_len] at this
    have := hr j hj'
    rw [hj] at this
    unfold Addr.add
    split
    · rename_i h0; subst h0; exact this
    · rw [Nat.zero_add]; exact this
  · intro v1 w1 hown hg _ _
    refine h v1 w1 ?_ (HB.grown hg hbase (own_base HO))
    rw [show encs (os ++ ns) = encs os ++ encs ns by simp [encs]]
    exact hown
end
theorem own_rowN {W : World} {base n : Nat} {v : Value} {o : List Nd} (h : W.ownsRow base 32 4 v n (encs o)) (hn : o.length = n) (h0 : 0 < n) : ∃ g cap, v = .slice (some ⟨g, 0, none⟩) n cap ∧ Row W g o ∧ g < W.heap.size := by
  rcases h.2 with ⟨_, h4⟩ | ⟨g, cap, cur, h4, _, h6, _, _, h9, h10⟩
  · omega
  · refine ⟨g, cap, h4, fun i hi => ?_, blk_lt h6⟩
    rw [Lib.cell_of_heap h6, ← h10, List.getElem?_take_of_lt (by omega), Array.getElem?_toList]
theorem own_Row {W : World} {base n g c : Nat} {o : List Nd} (h : W.ownsRow base 32 4 (.slice (some ⟨g, 0, none⟩) n c) n (encs o)) (hn : o.length = n) : Row W g o := by
  rcases h.2 with ⟨h1, _⟩ | ⟨g', cap, cur, h4, _, h6, _, _, h9, h10⟩
  · cases h1
  · injection h4 with h4 _ _
    injection h4 with h4
    injection h4 with h4
    subst h4
    exact fun i hi => (by rw [Lib.cell_of_heap h6, ← h10, List.getElem?_take_of_lt (by omega), Array.getElem?_toList])
theorem flats_take_le (l : List Tr) (j : Nat) : (flats (l.take j)).length ≤ (flats l).length := by
  have h := congrArg (fun l => (flats l).length) (List.take_append_drop j l)
  simp only [flats_append, List.length_append] at h
  omega
theorem flat_sort_len : ∀ t : Tr, (flat (sortT t)).length = (flat t).length := by
  apply Tr.ind
  intro n b ih
  simp only [sortT, sortTs_map, flat, List.length_append]
  rw [flats_perm (kids_perm n (b.map sortT)), flats_len, flats_len, List.map_map]
  congr 2
  apply List.map_congr_left
  intro t ht
  exact ih t ht
def ptsOf (s : Nat) (b : List Tr) : List PT := (kp s b).zip b
theorem pts_pos (s : Nat) (b : List Tr) : posOf (ptsOf s b) = intsOf (kp s b) := by
  unfold posOf ptsOf
  congr 1
  exact List.map_fst_zip (by rw [kp_length]; exact Nat.le_refl _)
theorem pts_snd (s : Nat) (b : List Tr) : (ptsOf s b).map (fun p : PT => p.2) = b := List.map_snd_zip (by rw [kp_length]; exact Nat.le_refl _)
theorem pts_len (s : Nat) (b : List Tr) : (ptsOf s b).length = b.length := by unfold ptsOf; rw [List.length_zip, kp_length, Nat.min_self]
theorem pts_at {o : List Nd} {i : Nat} {pre : List Nd} {n : Nd} {b : List Tr} (h : AtT o i pre (.mk n b)) : ∀ p ∈ ptsOf pre.length b, ∃ pre', AtT o p.1 pre' p.2 ∧ p.1 < i := by
  intro p hp
  obtain ⟨j, hj, rfl⟩ := List.getElem_of_mem hp
  rw [pts_len] at hj
  have hk := h.kid_at j hj
  have e : (ptsOf pre.length b)[j]'(by rw [pts_len]; exact hj) = ((kp pre.length b)[j]'(by rw [kp_length]; exact hj), b[j]) := by simp [ptsOf]
  rw [e]
  refine ⟨_, hk, ?_⟩
  have h1 := hk.len
  have h2 := h.len
  rw [flat, List.length_append, List.length_singleton] at h2
  have e2 : b = b.take j ++ b[j] :: b.drop (j + 1) := by rw [← List.drop_eq_getElem_cons hj, List.take_append_drop]
  have h4 := congrArg (fun l => (flats l).length) e2
  simp only [flats_append, flats, List.length_append] at h4
  rw [List.length_append] at h1
  omega
theorem pts_ok {o : List Nd} {i : Nat} {pre : List Nd} {n : Nd} {b : List Tr} (h : AtT o i pre (.mk n b)) : Pts o (ptsOf pre.length b) := fun p hp => by
  obtain ⟨pre', hk, _⟩ := pts_at h p hp
  exact ⟨hk.lt, hk.node⟩
def ordP (n : Nd) (l : List PT) : List PT := if n.f0 = 7 then byK pk l else l
theorem ordP_snd (n : Nd) (s : Nat) (b : List Tr) : (ordP n (ptsOf s b)).map (fun p : PT => p.2) = if n.f0 = 7 then byKey b else b := by
  unfold ordP
  split
  · have := byK_map (fun p : PT => p.2) Tr.key (ptsOf s b)
    rw [pts_snd] at this
    rw [byKey_eq, this]
    rfl
  · exact pts_snd s b
theorem ordP_mem {n : Nd} {l : List PT} {p : PT} (h : p ∈ ordP n l) : p ∈ l := by
  unfold ordP at h
  split at h
  · exact byK_mem l h
  · exact h
theorem ordP_len (n : Nd) (l : List PT) : (ordP n l).length = l.length := by
  unfold ordP
  split
  · exact byK_length _ _
  · rfl
def SC (f : Nat) : Prop := ∀ (W : World) (A : Option Addr) (n cap : Nat) (o : List Nd), Lst W A n o → ∀ (i : Nat) (pre : List Nd) (t : Tr), AtT o i pre t → i < f →
  Calls Tryz.prog 47 #[.slice A n cap, .int .i64 (i : Int)] W fun e W' => ∃ g c, e = .returned (.slice (some ⟨g, 0, none⟩) (flat t).length c) ∧ W'.ownsRow W.heap.size 32 4 (.slice (some ⟨g, 0, none⟩) (flat t).length c) (flat t).length (encs (flat (sortT t))) ∧ Below W.heap.size W W'
set_option maxHeartbeats 16000000 in
set_option maxRecDepth 100000 in
theorem sorted_step (f : Nat) (ih : SC f) : SC (f + 1) := by
  intro W A n cap o hL i pre t hT hif
  have hin : i < n := by rw [← hL.len]; exact hT.lt
  obtain ⟨b, off, rfl, hns⟩ := hL.nv.some (by have := hT.lt; omega)
  have hio := hT.lt
  have CK := Lib.hid (kids_calls W _ n cap o hL i pre t hT)
  obtain ⟨nn, kids⟩ := t
  have hnode := hT.node
  simp only [Tr.nd] at hnode
  simp only [Tr.kids] at CK
  rw [← pts_pos] at CK
  obtain ⟨m, hm⟩ : ∃ m, kids.length = m := ⟨_, rfl⟩
  rw [hm] at CK
  have hlen := hT.len
  have hmf : m + 1 ≤ (flat (.mk nn kids)).length := by
    rw [flat, List.length_append, List.length_singleton]
    have : kids.length ≤ (flats kids).length := by
      rw [flats_len]
      have : ∀ l : List Tr, l.length ≤ (l.map (fun t => (flat t).length)).sum := by
        intro l
        induction l with
        | nil => simp
        | cons u l ih => have := List.length_pos_iff.2 (flat_ne u); simp only [List.length_cons, List.map_cons, List.sum_cons]; omega
      exact this kids
    omega
  have hfew := hL.few
  have hi0 : (i : Int) < (n : Int) := by omega
  have hmn : m ≤ n := by omega
  have HL := Lib.hid hL
  have HT := Lib.hid hT
  have HN := Lib.hid (show o[i]'hio = nn from hnode)
  have HM := Lib.hid hm
  have IH := Lib.hid ih
  have HFIN := Lib.hid (show i ≤ f by omega)
  obtain ⟨P0, hP0⟩ : ∃ P0, ptsOf pre.length kids = P0 := ⟨_, rfl⟩
  have HPL := Lib.hid (show P0.length = m by rw [← hP0, pts_len, hm])
  have HPT := Lib.hid (show ∀ p ∈ P0, ∃ pre', AtT o p.1 pre' p.2 ∧ p.1 < i by rw [← hP0]; exact pts_at hT)
  have HPO := Lib.hid (show Pts o P0 by rw [← hP0]; exact pts_ok hT)
  have HS := Lib.hid (show flat (sortT (.mk nn kids)) = flats ((ordP nn P0).map (fun p : PT => sortT p.2)) ++ [nn] by
    rw [sortT_ref, flat, ← hP0, ← ordP_snd nn pre.length kids, List.map_map]; rfl)
  have HFL := Lib.hid (show (flats ((ordP nn P0).map (fun p : PT => sortT p.2))).length + 1 = (flat (.mk nn kids)).length by
    have h1 := flat_sort_len (.mk nn kids)
    rw [HS.out, List.length_append, List.length_singleton] at h1
    exact h1)
  rw [hP0] at CK
  have HFN := Lib.hid (show (flat (.mk nn kids)).length ≤ n by omega)
  clear hL hT hns ih hnode hm hlen hif hP0 hmf
  by_cases c7 : nn.f0 = 7
  · have t7 : (nn.f0 == 7) = true := by simp [c7]
    have HC7 := Lib.hid c7
    have HOR := Lib.hid (show byK pk P0 = ordP nn P0 by unfold ordP; rw [if_pos c7])
    rw [← HOR.out] at HS HFL
    clear c7
    go_enter Tryz.func47, Tryz.ntmps47
    go_wp2_with (first | (go_at_call 35; (with_reducible refine CK.out.mono ?_); rintro e1 W1 ⟨A1, c1, rfl, ho, hb⟩; have O1 := Lib.hid ho; have B1 := Lib.hid hb; have hLw := HL.out.below hb (Nat.le_refl _); obtain ⟨b', off', hbe, hns⟩ := hLw.nv.some (by rw [HL.out.len]; omega); cases hbe; obtain ⟨y0, y1, y2, y3⟩ := hns.at_ i hio; rw [HN.out] at y0 y1 y2 y3; clear ho hb hLw hns) | (go_at_call 72; (with_reducible refine (bykey_calls _ _ n cap o (HL.out.below B1.out (Nat.le_refl _)) _ m c1 A1 P0 HPL.out hmn HPO.out O1.out).mono ?_); rintro e1 W2 ⟨A2, c2, rfl, ho, hb⟩; have B2 := Lib.hid (B1.out.trans (hb.mono B1.out.size)); have O2 := Lib.hid (own_lower ho B1.out.size); clear ho hb y0 y1 y2 y3))
    obtain ⟨B3, hB3⟩ : ∃ B3, W2.heap.size = B3 := ⟨_, rfl⟩
    have HB3 := Lib.hid hB3
    have HPM := Lib.hid (show ∀ p ∈ byK pk P0, ∃ pre', AtT o p.1 pre' p.2 ∧ p.1 < i by rw [HOR.out]; exact fun p hp => HPT.out p (ordP_mem hp))
    have HLN := Lib.hid (show (byK pk P0).length = m by rw [HOR.out, ordP_len]; exact HPL.out)
    clear hB3
    go_loopg [6, 7] m (fun k v6 v7 W' => ∃ (j N6 : Nat) (A6 : Option Addr) (c6 : Nat), v6 = .slice A6 N6 c6 ∧ v7 = .int .i64 (j : Int) ∧ Hid (k = m - j) ∧ Aside0 (j ≤ m ∧ N6 ≤ n) ∧ Hid ((flats (((byK pk P0).take j).map (fun p : PT => sortT p.2))).length = N6) ∧ Hid (W'.ownsRow B3 32 4 (.slice A6 N6 c6) N6 (encs (flats (((byK pk P0).take j).map (fun p : PT => sortT p.2))))) ∧ Hid (Below B3 W2 W'))
    case atStart => exact ⟨0, 0, none, 0, rfl, rfl, Lib.hid rfl, ⟨Nat.zero_le _, Nat.zero_le _⟩, Lib.hid rfl, Lib.hid (own_nil _ _ _ _), Lib.hid (Below.refl _ _)⟩
    case round =>
      obtain ⟨j, N6, A6, c6, rfl, rfl, HG, HJ, HN6, HO, HB⟩ := hrel
      have hjm := HJ.out
      have HBW := Lib.hid (B2.out.trans (HB.out.mono (by rw [← HB3.out]; exact B2.out.size)))
      by_cases hj : j < m
      · have d2 : decide ((j : Int) < (m : Int)) = true := by simp; omega
        have hjl : j < (byK pk P0).length := by rw [HLN.out]; exact hj
        have hjp : j < (posOf (byK pk P0)).length := by rw [posOf_len]; exact hjl
        obtain ⟨bk, hbk, rj⟩ := own_read (own_bel O2.out HB.out (Nat.le_of_eq HB3.out)) j hjp
        subst hbk
        obtain ⟨x, hx⟩ : ∃ x, (byK pk P0)[j]'hjl = x := ⟨_, rfl⟩
        have vx : (posOf (byK pk P0))[j]'hjp = (x.1 : Int) := by rw [posOf_get (byK pk P0) j hjl, hx]
        rw [vx] at rj
        obtain ⟨pre', hAx, hxi⟩ := HPM.out x (by rw [← hx]; exact List.getElem_mem _)
        have CS := Lib.hid (fun W1 (hb : Below W.heap.size W W1) => IH.out W1 _ n cap o (HL.out.below hb (Nat.le_refl _)) x.1 pre' x.2 hAx (by have := HFIN.out; omega))
        have HTK := Lib.hid (show flats (((byK pk P0).take (j + 1)).map (fun p : PT => sortT p.2)) = flats (((byK pk P0).take j).map (fun p : PT => sortT p.2)) ++ flat (sortT x.2) by
          rw [List.take_succ_eq_append_getElem hjl, hx, List.map_append, flats_append]; simp [flats])
        obtain ⟨Lx, hLx⟩ : ∃ Lx, (flat x.2).length = Lx := ⟨_, rfl⟩
        rw [hLx] at CS
        have HLX := Lib.hid (show (flat (sortT x.2)).length = Lx by rw [flat_sort_len, hLx])
        have hsum : N6 + Lx ≤ n := by
          have h1 := flats_take_le ((byK pk P0).map (fun p : PT => sortT p.2)) (j + 1)
          rw [← List.map_take, HTK.out, List.length_append, HN6.out, HLX.out] at h1
          have := HFL.out
          have := HFN.out
          omega
        have hLx0 : 0 < Lx := by rw [← hLx]; exact List.length_pos_iff.2 (flat_ne _)
        have hjm2 : (j : Int) < (m : Int) := by omega
        clear hx vx hLx hAx
        go_wp2_with (first | (go_at_call 47; (with_reducible refine (CS.out _ HBW.out).mono ?_); rintro e1 W4 ⟨g4, c4, rfl, ho, hb⟩; have R4 := Lib.hid (own_Row ho HLX.out); have O4 := Lib.hid (own_bel HO.out hb (Nat.le_refl _)); have B4 := Lib.hid (HB.out.trans (hb.mono (by rw [← HB3.out]; exact HB.out.size))); clear ho hb) | (at_builtin; refine append_nodes B3 rfl (.tmp 33) (.tmp 34) rfl (.slice A6 N6 c6) N6 (flats (((byK pk P0).take j).map (fun p : PT => sortT p.2))) (flat (sortT x.2)) g4 Lx c4 rfl rfl HLX.out R4.out O4.out B4.out (by rw [← HB3.out]; exact B4.out.size) (by omega) (N6 + Lx) rfl ?_; intro v1 w1 ho hbel; obtain ⟨A7, c7, rfl⟩ := own_slice ho; have O8 := Lib.hid ho; have B8 := Lib.hid hbel; clear ho hbel))
        go_roundg (m - (j + 1))
        case rel => exact ⟨j + 1, N6 + Lx, _, _, rfl, rfl, Lib.hid rfl, ⟨by omega, by omega⟩, Lib.hid (by rw [HTK.out, List.length_append, HN6.out, HLX.out]), Lib.hid (by rw [HTK.out]; exact O8.out), B8⟩
        case measure => have := HG.out; omega
      · have hje : j = m := by omega
        subst hje
        have d2 : decide ((j : Int) < (j : Int)) = false := by simp
        have htk : (byK pk P0).take j = byK pk P0 := List.take_of_length_le (by rw [HLN.out]; exact Nat.le_refl _)
        have hO := HO.out
        have hN6 := HN6.out
        rw [htk] at hO hN6
        have HO2 := Lib.hid hO
        have HN62 := Lib.hid hN6
        have hLw := HL.out.below HBW.out (Nat.le_refl _)
        obtain ⟨b', off', hbe, hns⟩ := hLw.nv.some (by rw [HL.out.len]; omega)
        cases hbe
        obtain ⟨y0, y1, y2, y3⟩ := hns.at_ i hio
        rw [HN.out] at y0 y1 y2 y3
        clear htk hO hN6 hLw hns
        go_wp2_with (first | (at_builtin; refine print_append_cells B3 rfl (.tmp 36) (.tmp 41) 22 32 (.agg #[.int .i64 0, .string ⟨#[]⟩, .int .i64 0, .int .i64 0]) 4 40 rfl Tryz.underlying22 info_node rfl (by decide) (by decide) (.slice A6 N6 c6) N6 (encs (flats ((byK pk P0).map (fun p : PT => sortT p.2)))) (cellsN nn) rfl rfl rfl ?h1 HO2.out HB.out ?hb ?hl ?_; (case h1 => intro u hu; simp [cellsN] at hu; rcases hu with rfl | rfl | rfl | rfl <;> rfl); (case hb => rw [← HB3.out]; exact HB.out.size); (case hl => omega); intro v1 w1 ho hbel hgr hat; obtain ⟨gg, c9, rfl⟩ := own_form ho; have O9 := Lib.hid ho; have B9 := Lib.hid hbel; clear ho hbel hgr hat))
        go_ret
        have hfl : (flat (.mk nn kids)).length = N6 + 1 := by have := HFL.out; rw [HN62.out] at this; omega
        refine ⟨gg, c9, by rw [hfl]; rfl, ?_, B2.out.trans (B9.out.mono (by rw [← HB3.out]; exact B2.out.size))⟩
        rw [hfl, HS.out, encs_snoc]
        exact own_lower O9.out (by rw [← HB3.out]; exact B2.out.size)
  · have t7 : (nn.f0 == 7) = false := by simp [c7]
    have HOR := Lib.hid (show P0 = ordP nn P0 by unfold ordP; rw [if_neg c7])
    rw [← HOR.out] at HS HFL
    clear c7
    go_enter Tryz.func47, Tryz.ntmps47
    go_wp2_with (first | (go_at_call 35; (with_reducible refine CK.out.mono ?_); rintro e1 W2 ⟨A2, c2, rfl, ho, hb⟩; have O2 := Lib.hid ho; have B2 := Lib.hid hb; have hLw := HL.out.below hb (Nat.le_refl _); obtain ⟨b', off', hbe, hns⟩ := hLw.nv.some (by rw [HL.out.len]; omega); cases hbe; obtain ⟨y0, y1, y2, y3⟩ := hns.at_ i hio; rw [HN.out] at y0 y1 y2 y3; clear ho hb hLw hns))
    clear y0 y1 y2 y3
    obtain ⟨B3, hB3⟩ : ∃ B3, W2.heap.size = B3 := ⟨_, rfl⟩
    have HB3 := Lib.hid hB3
    have HPM := Lib.hid (show ∀ p ∈ P0, ∃ pre', AtT o p.1 pre' p.2 ∧ p.1 < i by rw [HOR.out]; exact fun p hp => HPT.out p (ordP_mem hp))
    have HLN := Lib.hid (show (P0).length = m by rw [HOR.out, ordP_len]; exact HPL.out)
    clear hB3
    go_loopg [6, 7] m (fun k v6 v7 W' => ∃ (j N6 : Nat) (A6 : Option Addr) (c6 : Nat), v6 = .slice A6 N6 c6 ∧ v7 = .int .i64 (j : Int) ∧ Hid (k = m - j) ∧ Aside0 (j ≤ m ∧ N6 ≤ n) ∧ Hid ((flats (((P0).take j).map (fun p : PT => sortT p.2))).length = N6) ∧ Hid (W'.ownsRow B3 32 4 (.slice A6 N6 c6) N6 (encs (flats (((P0).take j).map (fun p : PT => sortT p.2))))) ∧ Hid (Below B3 W2 W'))
    case atStart => exact ⟨0, 0, none, 0, rfl, rfl, Lib.hid rfl, ⟨Nat.zero_le _, Nat.zero_le _⟩, Lib.hid rfl, Lib.hid (own_nil _ _ _ _), Lib.hid (Below.refl _ _)⟩
    case round =>
      obtain ⟨j, N6, A6, c6, rfl, rfl, HG, HJ, HN6, HO, HB⟩ := hrel
      have hjm := HJ.out
      have HBW := Lib.hid (B2.out.trans (HB.out.mono (by rw [← HB3.out]; exact B2.out.size)))
      by_cases hj : j < m
      · have d2 : decide ((j : Int) < (m : Int)) = true := by simp; omega
        have hjl : j < (P0).length := by rw [HLN.out]; exact hj
        have hjp : j < (posOf (P0)).length := by rw [posOf_len]; exact hjl
        obtain ⟨bk, hbk, rj⟩ := own_read (own_bel O2.out HB.out (Nat.le_of_eq HB3.out)) j hjp
        subst hbk
        obtain ⟨x, hx⟩ : ∃ x, (P0)[j]'hjl = x := ⟨_, rfl⟩
        have vx : (posOf (P0))[j]'hjp = (x.1 : Int) := by rw [posOf_get (P0) j hjl, hx]
        rw [vx] at rj
        obtain ⟨pre', hAx, hxi⟩ := HPM.out x (by rw [← hx]; exact List.getElem_mem _)
        have CS := Lib.hid (fun W1 (hb : Below W.heap.size W W1) => IH.out W1 _ n cap o (HL.out.below hb (Nat.le_refl _)) x.1 pre' x.2 hAx (by have := HFIN.out; omega))
        have HTK := Lib.hid (show flats (((P0).take (j + 1)).map (fun p : PT => sortT p.2)) = flats (((P0).take j).map (fun p : PT => sortT p.2)) ++ flat (sortT x.2) by
          rw [List.take_succ_eq_append_getElem hjl, hx, List.map_append, flats_append]; simp [flats])
        obtain ⟨Lx, hLx⟩ : ∃ Lx, (flat x.2).length = Lx := ⟨_, rfl⟩
        rw [hLx] at CS
        have HLX := Lib.hid (show (flat (sortT x.2)).length = Lx by rw [flat_sort_len, hLx])
        have hsum : N6 + Lx ≤ n := by
          have h1 := flats_take_le ((P0).map (fun p : PT => sortT p.2)) (j + 1)
          rw [← List.map_take, HTK.out, List.length_append, HN6.out, HLX.out] at h1
          have := HFL.out
          have := HFN.out
          omega
        have hLx0 : 0 < Lx := by rw [← hLx]; exact List.length_pos_iff.2 (flat_ne _)
        have hjm2 : (j : Int) < (m : Int) := by omega
        clear hx vx hLx hAx
        go_wp2_with (first | (go_at_call 47; (with_reducible refine (CS.out _ HBW.out).mono ?_); rintro e1 W4 ⟨g4, c4, rfl, ho, hb⟩; have R4 := Lib.hid (own_Row ho HLX.out); have O4 := Lib.hid (own_bel HO.out hb (Nat.le_refl _)); have B4 := Lib.hid (HB.out.trans (hb.mono (by rw [← HB3.out]; exact HB.out.size))); clear ho hb) | (at_builtin; refine append_nodes B3 rfl (.tmp 33) (.tmp 34) rfl (.slice A6 N6 c6) N6 (flats (((P0).take j).map (fun p : PT => sortT p.2))) (flat (sortT x.2)) g4 Lx c4 rfl rfl HLX.out R4.out O4.out B4.out (by rw [← HB3.out]; exact B4.out.size) (by omega) (N6 + Lx) rfl ?_; intro v1 w1 ho hbel; obtain ⟨A7, c7, rfl⟩ := own_slice ho; have O8 := Lib.hid ho; have B8 := Lib.hid hbel; clear ho hbel))
        go_roundg (m - (j + 1))
        case rel => exact ⟨j + 1, N6 + Lx, _, _, rfl, rfl, Lib.hid rfl, ⟨by omega, by omega⟩, Lib.hid (by rw [HTK.out, List.length_append, HN6.out, HLX.out]), Lib.hid (by rw [HTK.out]; exact O8.out), B8⟩
        case measure => have := HG.out; omega
      · have hje : j = m := by omega
        subst hje
        have d2 : decide ((j : Int) < (j : Int)) = false := by simp
        have htk : (P0).take j = P0 := List.take_of_length_le (by rw [HLN.out]; exact Nat.le_refl _)
        have hO := HO.out
        have hN6 := HN6.out
        rw [htk] at hO hN6
        have HO2 := Lib.hid hO
        have HN62 := Lib.hid hN6
        have hLw := HL.out.below HBW.out (Nat.le_refl _)
        obtain ⟨b', off', hbe, hns⟩ := hLw.nv.some (by rw [HL.out.len]; omega)
        cases hbe
        obtain ⟨y0, y1, y2, y3⟩ := hns.at_ i hio
        rw [HN.out] at y0 y1 y2 y3
        clear htk hO hN6 hLw hns
        go_wp2_with (first | (at_builtin; refine print_append_cells B3 rfl (.tmp 36) (.tmp 41) 22 32 (.agg #[.int .i64 0, .string ⟨#[]⟩, .int .i64 0, .int .i64 0]) 4 40 rfl Tryz.underlying22 info_node rfl (by decide) (by decide) (.slice A6 N6 c6) N6 (encs (flats ((P0).map (fun p : PT => sortT p.2)))) (cellsN nn) rfl rfl rfl ?h1 HO2.out HB.out ?hb ?hl ?_; (case h1 => intro u hu; simp [cellsN] at hu; rcases hu with rfl | rfl | rfl | rfl <;> rfl); (case hb => rw [← HB3.out]; exact HB.out.size); (case hl => omega); intro v1 w1 ho hbel hgr hat; obtain ⟨gg, c9, rfl⟩ := own_form ho; have O9 := Lib.hid ho; have B9 := Lib.hid hbel; clear ho hbel hgr hat))
        go_ret
        have hfl : (flat (.mk nn kids)).length = N6 + 1 := by have := HFL.out; rw [HN62.out] at this; omega
        refine ⟨gg, c9, by rw [hfl]; rfl, ?_, B2.out.trans (B9.out.mono (by rw [← HB3.out]; exact B2.out.size))⟩
        rw [hfl, HS.out, encs_snoc]
        exact own_lower O9.out (by rw [← HB3.out]; exact B2.out.size)
theorem sorted_all : ∀ f, SC f
  | 0 => fun _ _ _ _ _ _ _ _ _ _ h => absurd h (Nat.not_lt_zero _)
  | f + 1 => sorted_step f (sorted_all f)
end Go.Proofs.YtoefnmhmiphilaaGreatDoor.Tp

namespace Go.Proofs.YtoefnmhmiphilaaGreatDoor.Tp
open Go Go.RowKit Go.Maps Go.Proofs.YtoefnmhmiphilaaGreatDoorW.PrintWords
theorem AtT.root {o : List Nd} {t : Tr} (hA : okA t = true) (hf : flat t = o) {n : Nat} (hn : o.length = n + 1) : AtT o n [] t :=
  ⟨by rw [List.take_of_length_le (by omega), hf]; rfl, hA, by omega⟩
theorem ok_A {t : Tr} (h : okT t = true) : okA t = true := by rw [okT_iff, Bool.and_eq_true] at h; exact h.1
set_option maxHeartbeats 4000000 in
set_option maxRecDepth 100000 in
theorem sortedR_calls (W : World) (A : Option Addr) (n cap : Nat) (o : List Nd) (hL : Lst W A n o) (t : Tr) (hA : okA t = true) (hf : flat t = o) :
    Calls Tryz.prog 28 #[.slice A n cap] W fun e W' => ∃ g c, e = .returned (.slice (some ⟨g, 0, none⟩) n c) ∧ W'.ownsRow W.heap.size 32 4 (.slice (some ⟨g, 0, none⟩) n c) n (encs (flat (sortT t))) ∧ Below W.heap.size W W' := by
  have h0 : 0 < o.length := by rw [← hf]; exact List.length_pos_iff.2 (flat_ne t)
  have hlen := hL.len
  have hfew := hL.few
  cases n with
  | zero => omega
  | succ i =>
    have CS := Lib.hid (sorted_all (i + 1) W A (i + 1) cap o hL i [] t (AtT.root hA hf hlen) (Nat.lt_succ_self i))
    rw [hf, hlen] at CS
    clear hL h0 hlen hA hf
    go_enter Tryz.func28, Tryz.ntmps28
    go_wp2_with (first | (go_at_call 47; refine CS.out.mono ?_; rintro e1 W1 ⟨g, c, rfl, ho, hb⟩; have O1 := Lib.hid ho; have B1 := Lib.hid hb; clear ho hb))
    go_ret
    exact ⟨g, c, rfl, O1.out, B1.out⟩
def SRes (o : List Nd) (W : World) (e : Ending) (W' : World) : Prop :=
  Below W.heap.size W W' ∧ match apart o with
  | .ok t => ∃ g c, e = .returned (.tuple #[.slice (some ⟨g, 0, none⟩) o.length c, .int .i64 0]) ∧ W'.ownsRow W.heap.size 32 4 (.slice (some ⟨g, 0, none⟩) o.length c) o.length (encs (flat (sortT t)))
  | .error x => e = .returned (.tuple #[.slice none 0 0, .int .i64 x])
theorem SRes.mk_ok {o : List Nd} {W W' : World} {t : Tr} {n g c : Nat} (hx : apart o = .ok t) (hn : o.length = n) (ho : W'.ownsRow W.heap.size 32 4 (.slice (some ⟨g, 0, none⟩) n c) n (encs (flat (sortT t)))) (hb : Below W.heap.size W W') : SRes o W (.returned (.tuple #[.slice (some ⟨g, 0, none⟩) n c, .int .i64 0])) W' := by
  subst hn; unfold SRes; rw [hx]; exact ⟨hb, g, c, rfl, ho⟩
theorem SRes.mk_err {o : List Nd} {W W' : World} {x : Int} (hx : apart o = .error x) (hb : Below W.heap.size W W') : SRes o W (.returned (.tuple #[.slice none 0 0, .int .i64 x])) W' := by
  unfold SRes; rw [hx]; exact ⟨hb, rfl⟩
theorem apart_code {o : List Nd} {x : Int} (h : apart o = .error x) : (x != 0) = true := by
  rcases apart_err h with ⟨_, rfl⟩ | ⟨_, rfl⟩ <;> rfl
set_option maxHeartbeats 4000000 in
set_option maxRecDepth 100000 in
theorem rsort_calls (W : World) (A : Option Addr) (n cap : Nat) (o : List Nd) (hL : Lst W A n o) : Calls Tryz.prog 13 #[.slice A n cap] W (SRes o W) := by
  have CC := Lib.hid (rcheck_calls W A n cap o hL)
  have hlen := hL.len
  cases ha : apart o with
  | error x =>
    rw [ha, show errOf (.error x) = x from rfl] at CC
    have hx := apart_code ha
    have HA := Lib.hid ha
    clear hL hlen ha
    go_enter Tryz.func13, Tryz.ntmps13
    go_wp2_with (first | (go_at_call 16; refine CC.out.mono ?_; rintro e1 W1 ⟨rfl, hb⟩; have B1 := Lib.hid hb; clear hb))
    go_ret2
    exact SRes.mk_err HA.out B1.out
  | ok t =>
    rw [ha, show errOf (.ok t) = 0 from rfl] at CC
    obtain ⟨_, h2, h3, _, _⟩ := apart_ok.1 ha
    have CS := Lib.hid (fun W1 (hb : Below W.heap.size W W1) => sortedR_calls W1 A n cap o (hL.below hb (Nat.le_refl _)) t (ok_A h3) h2)
    have HA := Lib.hid ha
    have HLEN := Lib.hid hlen
    clear hL hlen ha h2 h3
    go_enter Tryz.func13, Tryz.ntmps13
    go_wp2_with (first | (go_at_call 16; refine CC.out.mono ?_; rintro e1 W1 ⟨rfl, hb⟩; have B1 := Lib.hid hb; clear hb) | (go_at_call 28; refine (CS.out _ B1.out).mono ?_; rintro e1 W2 ⟨g, c, rfl, ho, hb⟩; have B2 := Lib.hid (B1.out.trans (hb.mono B1.out.size)); have O2 := Lib.hid (own_lower ho B1.out.size); clear ho hb))
    go_ret2
    exact SRes.mk_ok HA.out HLEN.out O2.out B2.out
theorem wrapN {x : Int} {n : Nat} (h : x = (n : Int)) (hn : n ≤ 4611686018427387904) : wrap64 x = (n : Int) := by subst h; unfold wrap64; omega
def mkB (l : List UInt8) : ByteArray := ⟨l.toArray⟩
theorem dig_one : ∀ i : Fin 10, (⟨#[48, 49, 50, 51, 52, 53, 54, 55, 56, 57]⟩ : ByteArray).extract i.val (i.val + 1) = mkB [UInt8.ofNat (48 + i.val)] := by
  intro i
  rcases i with ⟨_ | _ | _ | _ | _ | _ | _ | _ | _ | _ | i, hi⟩
  all_goals first | (exfalso; omega) | kernel_rfl
theorem mkB_append (a b : List UInt8) : mkB a ++ mkB b = mkB (a ++ b) := by
  apply ByteArray.ext
  simp [mkB, ByteArray.data_append]
theorem mkB_size (a : List UInt8) : (mkB a).size = a.length := rfl
def DG (f : Nat) : Prop := ∀ (W : World) (n : Nat), n < f → n ≤ 10000000 → Calls Tryz.prog 54 #[.int .i64 (n : Int)] W fun e W' => e = .returned (.string (mkB (Lib.decDigits n))) ∧ W' = W
set_option maxHeartbeats 4000000 in
set_option maxRecDepth 100000 in
theorem digits_step (f : Nat) (ih : DG f) : DG (f + 1) := by
  intro W n hn hb
  have d1 : decide ((n : Int) < 0) = false := by simp
  by_cases h : n < 10
  · have d2 : decide ((n : Int) < 10) = true := by simp; omega
    have HD := Lib.hid (show mkB (Lib.decDigits n) = mkB [UInt8.ofNat (48 + n)] by rw [Lib.decDigits_one h])
    have hx := dig_one ⟨n, h⟩
    simp only at hx
    obtain ⟨D, hD⟩ : ∃ D, mkB [UInt8.ofNat (48 + n)] = D := ⟨_, rfl⟩
    rw [hD] at HD hx
    clear hD
    have e1 : (n : Int) ≤ (n : Int) + 1 := by omega
    have e2 : (n : Int) + 1 ≤ 10 := by omega
    clear hn ih
    go_enter Tryz.func54, Tryz.ntmps54
    go_wp2_with fail
    go_ret
    exact ⟨by rw [HD.out]; rfl, rfl⟩
  · have d2 : decide ((n : Int) < 10) = false := by simp; omega
    obtain ⟨a, ha⟩ : ∃ a, n / 10 = a := ⟨_, rfl⟩
    obtain ⟨b, hb2⟩ : ∃ b, n % 10 = b := ⟨_, rfl⟩
    have hq : Int.tdiv (n : Int) 10 = (a : Int) := by rw [← ha]; rfl
    have hr : Int.tmod (n : Int) 10 = (b : Int) := by rw [← hb2]; rfl
    have C1 : Hid (∀ W : World, Calls Tryz.prog 54 #[.int .i64 (wrap64 (a : Int))] W fun e W' => e = .returned (.string (mkB (Lib.decDigits a))) ∧ W' = W) := Lib.hid (fun W => by rw [wrapN rfl (by omega)]; exact ih W a (by omega) (by omega))
    have C2 := Lib.hid (fun W => ih W b (by omega) (by omega))
    have HD := Lib.hid (show mkB (Lib.decDigits n) = mkB (Lib.decDigits (n / 10)) ++ mkB (Lib.decDigits (n % 10)) by
      rw [mkB_append, Lib.decDigits_one (show n % 10 < 10 by omega), Lib.decDigits, dif_neg h])
    rw [ha, hb2] at HD
    have z1 : (mkB (Lib.decDigits a)).size ≤ 8 := by rw [mkB_size, Lib.decDigits_length]; exact nDig_le 7 a (by omega)
    have z2 : (mkB (Lib.decDigits b)).size ≤ 8 := by rw [mkB_size, Lib.decDigits_length]; exact nDig_le 7 b (by omega)
    obtain ⟨S1, hS1⟩ : ∃ S, mkB (Lib.decDigits a) = S := ⟨_, rfl⟩
    obtain ⟨S2, hS2⟩ : ∃ S, mkB (Lib.decDigits b) = S := ⟨_, rfl⟩
    rw [hS1] at C1 z1 HD
    rw [hS2] at C2 z2 HD
    have z3 : ¬ 9223372036854775807 < S1.size + S2.size := by omega
    clear ha hb2 hS1 hS2 h
    clear hn ih
    go_enter Tryz.func54, Tryz.ntmps54
    go_wp2_with (first | (go_at_call 54; (with_reducible refine (C1.out _).mono ?_); rintro e1 W1 ⟨rfl, hw⟩; have hw2 := hw.symm; clear hw; subst hw2) | (go_at_call 54; (with_reducible refine (C2.out _).mono ?_); rintro e1 W1 ⟨rfl, hw⟩; have hw2 := hw.symm; clear hw; subst hw2))
    go_ret
    exact ⟨by rw [HD.out]; rfl, rfl⟩
end Go.Proofs.YtoefnmhmiphilaaGreatDoor.Tp

namespace Go.Proofs.YtoefnmhmiphilaaGreatDoor.Tp
open Go Go.RowKit Go.Maps Go.Proofs.YtoefnmhmiphilaaGreatDoorW.PrintWords
def QR (acc r : List UInt8) : Option (List UInt8) := (escs r).map fun x => acc ++ x ++ [34]
theorem QR_nil (acc : List UInt8) : QR acc [] = some (acc ++ [34]) := by simp [QR, escs]
theorem QR_step {c : UInt8} {x : List UInt8} (h : esc c = some x) (acc t : List UInt8) : QR acc (c :: t) = QR (acc ++ x) t := by
  unfold QR
  simp only [escs, h]
  cases escs t <;> simp
theorem QR_none {c : UInt8} (h : esc c = none) (acc t : List UInt8) : QR acc (c :: t) = none := by
  unfold QR
  simp only [escs, h]
  simp
theorem esc_len {c : UInt8} {x : List UInt8} (h : esc c = some x) : x.length ≤ 2 := by
  unfold esc at h
  split at h
  · cases h; simp
  · split at h
    · cases h; simp
    · split at h
      · cases h
      · cases h; simp
theorem writeS (b : Nat) (acc x : List UInt8) (s' : ByteArray) (hx : s'.data.toList = x) (W : World) (h : Lib.IsBuilder 55 5 b b (Lib.byteCells acc) W) (hl : acc.length + x.length ≤ 140737488355328) (hb : b ≤ W.heap.size) :
    Calls Tryz.prog 52 #[.pointer (some ⟨b, 0, none⟩), .string s'] W fun e W' => (∃ v, e = .returned v) ∧ Hid (Lib.IsBuilder 55 5 b b (Lib.byteCells (acc ++ x)) W') ∧ Hid (Below b W W') := by
  have hs : s'.size = x.length := by rw [← hx]; simp
  refine (Bld.writeString b b (Lib.byteCells acc) s' W h (by rw [Lib.byteCells_length, hs]; exact hl) hb).mono ?_
  rintro e W' ⟨rfl, h1, h2⟩
  refine ⟨⟨_, rfl⟩, Lib.hid (.inr ?_), Lib.hid h2⟩
  have : Lib.byteCells acc ++ Lib.strCells s' = Lib.byteCells (acc ++ x) := by rw [Lib.strCells_eq, hx]; simp [Lib.byteCells]
  rw [← this]; exact h1
theorem one_cut {s : ByteArray} {q : Nat} {c : UInt8} {t : List UInt8} (h : rest s q = c :: t) : (s.extract q (q + 1)).data.toList = [c] := by
  rw [Lib.extract_data, show q + 1 - q = 1 by omega]
  show (rest s q).take 1 = _
  rw [h]; rfl
def quoteV : Option (List UInt8) → Value
  | some x => .tuple #[.string ⟨x.toArray⟩, .bool true]
  | none => .tuple #[.string ⟨#[]⟩, .bool false]
set_option maxHeartbeats 8000000 in
set_option maxRecDepth 100000 in
theorem quote_calls (W : World) (s : ByteArray) (hz : s.size ≤ 4294967296) :
    Calls Tryz.prog 49 #[.string s] W fun e W' => e = .returned (quoteV (quote s.data.toList)) ∧ Below W.heap.size W W' := by
  obtain ⟨b, hb⟩ : ∃ b, W.heap.size = b := ⟨_, rfl⟩
  rw [hb]
  have HZ := Lib.hid hz
  have HQ0 := Lib.hid (show quote s.data.toList = QR [34] (rest s 0) by rw [rest_zero]; rfl)
  have B0 : Hid (Lib.IsBuilder 55 5 b b (Lib.byteCells []) (W.alloc (.cells #[.pointer none, .slice none 0 0] 55))) := by
    refine Lib.hid (.inl ⟨Nat.le_refl _, .slice none 0 0, ?_, own_nil _ _ _ _, by simp [Value.ownBlock]⟩)
    rw [← hb]; exact blk_new W _
  have Z0 : Hid (b + 1 ≤ (W.alloc (.cells #[.pointer none, .slice none 0 0] 55)).heap.size) := Lib.hid (by simp; omega)
  have E0 : Hid (Below b W (W.alloc (.cells #[.pointer none, .slice none 0 0] 55))) := Lib.hid ((Below.refl b W).alloc (by omega) _)
  clear hz
  go_enter Tryz.func49, Tryz.ntmps49
  go_wp2_with (first | (go_at_call 52; refine (writeS b [] [34] _ rfl _ B0.out ?hl ?hb).mono ?_; (case hl => simp); (case hb => have := Z0.out; omega); rintro e W1 ⟨⟨vW1, rfl⟩, BW1, EW1⟩))
  go_loopg [13] s.size (fun k v13 W' => ∃ (q : Nat) (acc : List UInt8), v13 = .int .i64 (q : Int) ∧ Hid (k = s.size - q) ∧ Hid (q ≤ s.size) ∧ Hid (acc.length ≤ 2 * q + 1) ∧ Hid (Lib.IsBuilder 55 5 b b (Lib.byteCells acc) W') ∧ Hid (b + 1 ≤ W'.heap.size) ∧ Hid (Below b W W') ∧ Hid (quote s.data.toList = QR acc (rest s q)))
  case atStart => exact ⟨0, [34], rfl, Lib.hid rfl, Lib.hid (Nat.zero_le _), Lib.hid (by simp), BW1, Lib.hid (Nat.le_trans Z0.out EW1.out.size), Lib.hid (E0.out.trans EW1.out), HQ0⟩
  case round =>
    obtain ⟨q, acc, rfl, HK, HQ, HA, HB, HS, HE, HR⟩ := hrel
    by_cases hlt : q < s.size
    · have d1 : decide ((q : Int) < (s.size : Int)) = true := by simp; omega
      have hrq := rest_cons hlt
      obtain ⟨c, hc⟩ : ∃ c, s[q]'hlt = c := ⟨_, rfl⟩
      rw [hc] at hrq
      have HRQ := Lib.hid hrq
      clear hrq
      have HX := Lib.hid (one_cut HRQ.out)
      have hw : wrap64 ((q : Int) + 1) = ((q + 1 : Nat) : Int) := by have := HZ.out; unfold wrap64; omega
      by_cases h34 : c = 34
      · have t34 : ((c.toNat : Int) == 34) = true := by rw [h34]; rfl
        have HESC := Lib.hid (show esc c = some [92, c] by unfold esc; rw [if_pos (.inl h34)])
        clear h34
        go_wp2_with (first | (go_at_call 52; refine (writeS b acc [92, c] _ (by rw [ByteArray.data_append, Array.toList_append, HX.out]; rfl) _ HB.out ?hl ?hb).mono ?_; (case hl => have := HA.out; have := HQ.out; have := HZ.out; simp; omega); (case hb => have := HS.out; omega); rintro e W5 ⟨⟨v5, rfl⟩, B5, E5⟩))
        go_roundg (s.size - (q + 1))
        case rel => exact ⟨q + 1, acc ++ [92, c], by rw [hw], Lib.hid rfl, Lib.hid hlt, Lib.hid (by have := HA.out; simp; omega), B5, Lib.hid (Nat.le_trans HS.out E5.out.size), Lib.hid (HE.out.trans E5.out), Lib.hid (by rw [HR.out, HRQ.out]; exact QR_step HESC.out _ _)⟩
        case measure => have := HK.out; omega
      · have t34 : ((c.toNat : Int) == 34) = false := u8_ne (y := 34) h34
        by_cases h92 : c = 92
        · have t92 : ((c.toNat : Int) == 92) = true := by rw [h92]; rfl
          have HESC := Lib.hid (show esc c = some [92, c] by unfold esc; rw [if_pos (.inr h92)])
          clear h34 h92
          go_wp2_with (first | (go_at_call 52; refine (writeS b acc [92, c] _ (by rw [ByteArray.data_append, Array.toList_append, HX.out]; rfl) _ HB.out ?hl ?hb).mono ?_; (case hl => have := HA.out; have := HQ.out; have := HZ.out; simp; omega); (case hb => have := HS.out; omega); rintro e W5 ⟨⟨v5, rfl⟩, B5, E5⟩))
          go_roundg (s.size - (q + 1))
          case rel => exact ⟨q + 1, acc ++ [92, c], by rw [hw], Lib.hid rfl, Lib.hid hlt, Lib.hid (by have := HA.out; simp; omega), B5, Lib.hid (Nat.le_trans HS.out E5.out.size), Lib.hid (HE.out.trans E5.out), Lib.hid (by rw [HR.out, HRQ.out]; exact QR_step HESC.out _ _)⟩
          case measure => have := HK.out; omega
        · have t92 : ((c.toNat : Int) == 92) = false := u8_ne (y := 92) h92
          by_cases h10 : c = 10
          · have t10 : ((c.toNat : Int) == 10) = true := by rw [h10]; rfl
            have HESC := Lib.hid (show esc c = some [92, 110] by unfold esc; rw [if_neg (by simp [h34, h92]), if_pos h10])
            clear h34 h92 h10
            go_wp2_with (first | (go_at_call 52; refine (writeS b acc [92, 110] _ rfl _ HB.out ?hl ?hb).mono ?_; (case hl => have := HA.out; have := HQ.out; have := HZ.out; simp; omega); (case hb => have := HS.out; omega); rintro e W5 ⟨⟨v5, rfl⟩, B5, E5⟩))
            go_roundg (s.size - (q + 1))
            case rel => exact ⟨q + 1, acc ++ [92, 110], by rw [hw], Lib.hid rfl, Lib.hid hlt, Lib.hid (by have := HA.out; simp; omega), B5, Lib.hid (Nat.le_trans HS.out E5.out.size), Lib.hid (HE.out.trans E5.out), Lib.hid (by rw [HR.out, HRQ.out]; exact QR_step HESC.out _ _)⟩
            case measure => have := HK.out; omega
          · have t10 : ((c.toNat : Int) == 10) = false := u8_ne (y := 10) h10
            by_cases hbad : c.toNat < 32 ∨ 126 < c.toNat
            · have HESC := Lib.hid (show esc c = none by unfold esc; rw [if_neg (by simp [h34, h92]), if_neg h10, if_pos hbad])
              have HQN := Lib.hid (show quote s.data.toList = none by rw [HR.out, HRQ.out]; exact QR_none HESC.out _ _)
              clear h34 h92 h10
              rcases hbad with h1 | h1
              · have d32 : decide ((c.toNat : Int) < 32) = true := by simp; omega
                go_wp2_with fail
                go_ret2
                exact ⟨by rw [HQN.out]; rfl, HE.out⟩
              · have d32 : decide ((c.toNat : Int) < 32) = false := by simp; omega
                have d126 : decide ((126 : Int) < (c.toNat : Int)) = true := by simp; omega
                go_wp2_with fail
                go_ret2
                exact ⟨by rw [HQN.out]; rfl, HE.out⟩
            · have d32 : decide ((c.toNat : Int) < 32) = false := by simp; omega
              have d126 : decide ((126 : Int) < (c.toNat : Int)) = false := by simp; omega
              have HESC := Lib.hid (show esc c = some [c] by unfold esc; rw [if_neg (by simp [h34, h92]), if_neg h10, if_neg hbad])
              clear h34 h92 h10 hbad
              go_wp2_with (first | (go_at_call 52; refine (writeS b acc [c] _ HX.out _ HB.out ?hl ?hb).mono ?_; (case hl => have := HA.out; have := HQ.out; have := HZ.out; simp; omega); (case hb => have := HS.out; omega); rintro e W5 ⟨⟨v5, rfl⟩, B5, E5⟩))
              go_roundg (s.size - (q + 1))
              case rel => exact ⟨q + 1, acc ++ [c], by rw [hw], Lib.hid rfl, Lib.hid hlt, Lib.hid (by have := HA.out; simp; omega), B5, Lib.hid (Nat.le_trans HS.out E5.out.size), Lib.hid (HE.out.trans E5.out), Lib.hid (by rw [HR.out, HRQ.out]; exact QR_step HESC.out _ _)⟩
              case measure => have := HK.out; omega
    · have d1 : decide ((q : Int) < (s.size : Int)) = false := by simp; omega
      have HQE := Lib.hid (show quote s.data.toList = some (acc ++ [34]) by
        have : rest s q = [] := (rest_nil HQ.out).2 (by have := HQ.out; omega)
        rw [HR.out, this]; exact QR_nil acc)
      go_wp2_with (first | (go_at_call 52; refine (writeS b acc [34] _ rfl _ HB.out ?hl ?hb).mono ?_; (case hl => have := HA.out; have := HQ.out; have := HZ.out; simp; omega); (case hb => have := HS.out; omega); rintro e W5 ⟨⟨v5, rfl⟩, B5, E5⟩) | (go_at_call 33; refine (Tryz.Builder_String_any b b (acc ++ [34]) _ B5.out ?hw).mono ?_; (case hw => have := HS.out; have := E5.out.size; omega); rintro e W6 ⟨rfl, hb6⟩; have E6 := Lib.hid hb6; clear hb6))
      go_ret2
      exact ⟨by rw [HQE.out]; rfl, (HE.out.trans E5.out).trans E6.out⟩
end Go.Proofs.YtoefnmhmiphilaaGreatDoor.Tp

namespace Go.Proofs.YtoefnmhmiphilaaGreatDoor.Tp
open Go Go.RowKit Go.Maps Go.Proofs.YtoefnmhmiphilaaGreatDoorW.PrintWords
theorem str_of {B : ByteArray} {l : List UInt8} (h : B.data.toList = l) : B = ⟨l.toArray⟩ := by
  subst h
  exact ByteArray.ext (by simp)
theorem app_list (A B : ByteArray) : (A ++ B).data.toList = A.data.toList ++ B.data.toList := by rw [ByteArray.data_append, Array.toList_append]
set_option maxHeartbeats 8000000 in
set_option maxRecDepth 100000 in
theorem refquote_calls (W : World) (s : ByteArray) (hz : s.size ≤ 4294967296) :
    Calls Tryz.prog 53 #[.string s] W fun e W' => e = .returned (quoteV (quote s.data.toList)) ∧ Below W.heap.size W W' := by
  have HZ := Lib.hid hz
  have HQ0 := Lib.hid (show quote s.data.toList = QR [34] (rest s 0) by rw [rest_zero]; rfl)
  clear hz
  go_enter Tryz.func53, Tryz.ntmps53
  go_wp2_with fail
  go_loopg [4, 5] s.size (fun k v4 v5 W' => ∃ (q : Nat) (O : ByteArray), v4 = .string O ∧ v5 = .int .i64 (q : Int) ∧ Hid (k = s.size - q) ∧ Hid (q ≤ s.size) ∧ Hid (O.size ≤ 2 * q + 1) ∧ Hid (Below W.heap.size W W') ∧ Hid (quote s.data.toList = QR O.data.toList (rest s q)))
  case atStart => exact ⟨0, ⟨#[34]⟩, rfl, rfl, Lib.hid rfl, Lib.hid (Nat.zero_le _), Lib.hid (by decide), Lib.hid (Below.refl _ _), HQ0⟩
  case round =>
    obtain ⟨q, O, rfl, rfl, HK, HQ, HA, HE, HR⟩ := hrel
    by_cases hlt : q < s.size
    · have d1 : decide ((q : Int) < (s.size : Int)) = true := by simp; omega
      have hrq := rest_cons hlt
      obtain ⟨c, hc⟩ : ∃ c, s[q]'hlt = c := ⟨_, rfl⟩
      rw [hc] at hrq
      have HRQ := Lib.hid hrq
      clear hrq
      have HX := Lib.hid (one_cut HRQ.out)
      have hw : wrap64 ((q : Int) + 1) = ((q + 1 : Nat) : Int) := by have := HZ.out; unfold wrap64; omega
      obtain ⟨X, hX⟩ : ∃ X, s.extract q (q + 1) = X := ⟨_, rfl⟩
      rw [hX] at HX
      have hXs : X.size = 1 := congrArg List.length HX.out
      have m1 : ¬ 9223372036854775807 < O.size + 1 := by have := HA.out; have := HQ.out; have := HZ.out; omega
      have m2 : ¬ 9223372036854775807 < O.size + 1 + 1 := by have := HA.out; have := HQ.out; have := HZ.out; omega
      have m3 : ¬ 9223372036854775807 < O.size + 2 := by have := HA.out; have := HQ.out; have := HZ.out; omega
      by_cases h34 : c = 34
      · have t34 : ((c.toNat : Int) == 34) = true := by rw [h34]; rfl
        have HESC := Lib.hid (show esc c = some [92, c] by unfold esc; rw [if_pos (.inl h34)])
        clear h34
        go_wp2_with fail
        go_roundg (s.size - (q + 1))
        case rel => exact ⟨q + 1, O ++ ⟨#[92]⟩ ++ X, rfl, by rw [hw], Lib.hid rfl, Lib.hid hlt, Lib.hid (by have := HA.out; have z1 : (⟨#[92]⟩ : ByteArray).size = 1 := rfl; have z2 : (⟨#[92, 110]⟩ : ByteArray).size = 2 := rfl; simp only [ByteArray.size_append]; omega), HE, Lib.hid (by rw [HR.out, HRQ.out, QR_step HESC.out]; first | rfl | (congr 1; simp only [app_list, HX.out, List.append_assoc]; first | done | rfl) | (congr 1; simp only [app_list, HX.out]))⟩
        case measure => have := HK.out; omega
      · have t34 : ((c.toNat : Int) == 34) = false := u8_ne (y := 34) h34
        by_cases h92 : c = 92
        · have t92 : ((c.toNat : Int) == 92) = true := by rw [h92]; rfl
          have HESC := Lib.hid (show esc c = some [92, c] by unfold esc; rw [if_pos (.inr h92)])
          clear h34 h92
          go_wp2_with fail
          go_roundg (s.size - (q + 1))
          case rel => exact ⟨q + 1, O ++ ⟨#[92]⟩ ++ X, rfl, by rw [hw], Lib.hid rfl, Lib.hid hlt, Lib.hid (by have := HA.out; have z1 : (⟨#[92]⟩ : ByteArray).size = 1 := rfl; have z2 : (⟨#[92, 110]⟩ : ByteArray).size = 2 := rfl; simp only [ByteArray.size_append]; omega), HE, Lib.hid (by rw [HR.out, HRQ.out, QR_step HESC.out]; first | rfl | (congr 1; simp only [app_list, HX.out, List.append_assoc]; first | done | rfl) | (congr 1; simp only [app_list, HX.out]))⟩
          case measure => have := HK.out; omega
        · have t92 : ((c.toNat : Int) == 92) = false := u8_ne (y := 92) h92
          by_cases h10 : c = 10
          · have t10 : ((c.toNat : Int) == 10) = true := by rw [h10]; rfl
            have HESC := Lib.hid (show esc c = some [92, 110] by unfold esc; rw [if_neg (by simp [h34, h92]), if_pos h10])
            clear h34 h92 h10
            go_wp2_with fail
            go_roundg (s.size - (q + 1))
            case rel => exact ⟨q + 1, O ++ ⟨#[92, 110]⟩, rfl, by rw [hw], Lib.hid rfl, Lib.hid hlt, Lib.hid (by have := HA.out; have z1 : (⟨#[92]⟩ : ByteArray).size = 1 := rfl; have z2 : (⟨#[92, 110]⟩ : ByteArray).size = 2 := rfl; simp only [ByteArray.size_append]; omega), HE, Lib.hid (by rw [HR.out, HRQ.out, QR_step HESC.out]; first | rfl | (congr 1; simp only [app_list, HX.out, List.append_assoc]; first | done | rfl) | (congr 1; simp only [app_list, HX.out]))⟩
            case measure => have := HK.out; omega
          · have t10 : ((c.toNat : Int) == 10) = false := u8_ne (y := 10) h10
            by_cases hbad : c.toNat < 32 ∨ 126 < c.toNat
            · have HESC := Lib.hid (show esc c = none by unfold esc; rw [if_neg (by simp [h34, h92]), if_neg h10, if_pos hbad])
              have HQN := Lib.hid (show quote s.data.toList = none by rw [HR.out, HRQ.out]; exact QR_none HESC.out _ _)
              clear h34 h92 h10
              rcases hbad with h1 | h1
              · have d32 : decide ((c.toNat : Int) < 32) = true := by simp; omega
                go_wp2_with fail
                go_ret2
                exact ⟨by rw [HQN.out]; rfl, HE.out⟩
              · have d32 : decide ((c.toNat : Int) < 32) = false := by simp; omega
                have d126 : decide ((126 : Int) < (c.toNat : Int)) = true := by simp; omega
                go_wp2_with fail
                go_ret2
                exact ⟨by rw [HQN.out]; rfl, HE.out⟩
            · have d32 : decide ((c.toNat : Int) < 32) = false := by simp; omega
              have d126 : decide ((126 : Int) < (c.toNat : Int)) = false := by simp; omega
              have HESC := Lib.hid (show esc c = some [c] by unfold esc; rw [if_neg (by simp [h34, h92]), if_neg h10, if_neg hbad])
              clear h34 h92 h10 hbad
              go_wp2_with fail
              go_roundg (s.size - (q + 1))
              case rel => exact ⟨q + 1, O ++ X, rfl, by rw [hw], Lib.hid rfl, Lib.hid hlt, Lib.hid (by have := HA.out; have z1 : (⟨#[92]⟩ : ByteArray).size = 1 := rfl; have z2 : (⟨#[92, 110]⟩ : ByteArray).size = 2 := rfl; simp only [ByteArray.size_append]; omega), HE, Lib.hid (by rw [HR.out, HRQ.out, QR_step HESC.out]; first | rfl | (congr 1; simp only [app_list, HX.out, List.append_assoc]; first | done | rfl) | (congr 1; simp only [app_list, HX.out]))⟩
              case measure => have := HK.out; omega
    · have d1 : decide ((q : Int) < (s.size : Int)) = false := by simp; omega
      have m1 : ¬ 9223372036854775807 < O.size + 1 := by have := HA.out; have := HQ.out; have := HZ.out; omega
      have HQE := Lib.hid (show quote s.data.toList = some (O.data.toList ++ [34]) by
        have : rest s q = [] := (rest_nil HQ.out).2 (by have := HQ.out; omega)
        rw [HR.out, this]; exact QR_nil _)
      go_wp2_with fail
      go_ret2
      exact ⟨by rw [HQE.out, str_of (B := O ++ ⟨#[34]⟩) (l := O.data.toList ++ [34]) (app_list _ _)]; rfl, HE.out⟩
end Go.Proofs.YtoefnmhmiphilaaGreatDoor.Tp

namespace Go.Proofs.YtoefnmhmiphilaaGreatDoor.Tp
open Go Go.RowKit Go.Maps Go.Proofs.YtoefnmhmiphilaaGreatDoorW.PrintWords
theorem digits_all : ∀ f, DG f
  | 0 => fun _ _ h => absurd h (Nat.not_lt_zero _)
  | f + 1 => digits_step f (digits_all f)
set_option maxHeartbeats 4000000 in
set_option maxRecDepth 100000 in
theorem digits_calls (W : World) (n : Int) (h1 : -999999 ≤ n) (h2 : n ≤ 999999) : Calls Tryz.prog 54 #[.int .i64 n] W fun e W' => e = .returned (.string (mkB (Lib.itoa n))) ∧ W' = W := by
  by_cases hn : n < 0
  · obtain ⟨m, hm⟩ : ∃ m : Nat, n.natAbs = m := ⟨_, rfl⟩
    have hmn : -n = (m : Int) := by omega
    have C1 := Lib.hid (fun W => digits_all (m + 1) W m (Nat.lt_succ_self m) (by omega))
    have HD := Lib.hid (show mkB (Lib.itoa n) = ⟨#[45]⟩ ++ mkB (Lib.decDigits m) by
      unfold Lib.itoa
      rw [if_pos hn, hm]
      exact (mkB_append [45] _).symm)
    have z1 : (mkB (Lib.decDigits m)).size ≤ 8 := by rw [mkB_size, Lib.decDigits_length]; exact nDig_le 7 m (by omega)
    obtain ⟨S1, hS1⟩ : ∃ S, mkB (Lib.decDigits m) = S := ⟨_, rfl⟩
    rw [hS1] at C1 z1 HD
    have z3 : ¬ 9223372036854775807 < 1 + S1.size := by omega
    have d1 : decide (n < 0) = true := decide_eq_true hn
    have d2 : wrap64 (-n) = (m : Int) := wrapN hmn (by omega)
    clear hS1 hm hn
    go_enter Tryz.func54, Tryz.ntmps54
    go_wp2_with (first | (go_at_call 54; (with_reducible refine (C1.out _).mono ?_); rintro e1 W1 ⟨rfl, hw⟩; have hw2 := hw.symm; clear hw; subst hw2))
    go_ret
    exact ⟨by rw [HD.out]; rfl, rfl⟩
  · obtain ⟨m, rfl⟩ := Int.eq_ofNat_of_zero_le (show 0 ≤ n by omega)
    have h := digits_all (m + 1) W m (Nat.lt_succ_self m) (by omega)
    unfold Lib.itoa
    rw [if_neg hn]
    exact h
theorem quoteV_quo (s : ByteArray) : ∃ b, quoteV (quote s.data.toList) = .tuple #[.string (mkB (quo s)), .bool b] := by
  unfold quo
  cases quote s.data.toList with
  | none => exact ⟨false, rfl⟩
  | some x => exact ⟨true, rfl⟩
theorem more_app : ∀ (a b : List Tr), more (a ++ b) = more a ++ more b
  | [], b => rfl
  | t :: a, b => by simp only [List.cons_append, more, more_app a b, List.append_assoc]
theorem tells_snoc (a : List Tr) (u : Tr) : tells (a ++ [u]) = tells a ++ (if a = [] then [] else [44]) ++ tell u := by
  cases a with
  | nil => simp [tells, more]
  | cons t a => simp [tells, more_app, more]
theorem tells_mem {u : Tr} {b : List Tr} (h : u ∈ b) : (tell u).length ≤ (tells b).length := by
  cases b with
  | nil => cases h
  | cons t b =>
    rw [tells, List.length_append]
    rcases List.mem_cons.1 h with rfl | h
    · omega
    · have : ∀ l : List Tr, u ∈ l → (tell u).length ≤ (more l).length := by
        intro l
        induction l with
        | nil => intro h; cases h
        | cons v l ih =>
          intro h
          rw [more, List.length_append]
          rcases List.mem_cons.1 h with rfl | h
          · simp; omega
          · have := ih h; omega
      have := this b h; omega
theorem tells_take (b : List Tr) (j : Nat) : (tells (b.take j)).length ≤ (tells b).length := by
  cases b with
  | nil => simp [tells]
  | cons t b =>
    cases j with
    | zero => simp [tells]
    | succ j =>
      rw [List.take_succ_cons, tells, tells, List.length_append, List.length_append]
      have h := congrArg (fun l => (more l).length) (List.take_append_drop j b)
      simp only [more_app, List.length_append] at h
      omega
def TC (f : Nat) : Prop := ∀ (W : World) (A : Option Addr) (n cap : Nat) (o : List Nd), Lst W A n o → ∀ (i : Nat) (pre : List Nd) (t : Tr), AtT o i pre t → i < f → (tell t).length ≤ 1099511627776 →
  Calls Tryz.prog 34 #[.slice A n cap, .int .i64 (i : Int)] W fun e W' => e = .returned (.string (mkB (tell t))) ∧ Below W.heap.size W W'
theorem okA_may {n : Nd} {b : List Tr} (h : okA (.mk n b) = true) : may n = true := by
  simp only [okA, alone, Bool.and_eq_true] at h
  exact h.1.1.2.2
end Go.Proofs.YtoefnmhmiphilaaGreatDoor.Tp

namespace Go.Proofs.YtoefnmhmiphilaaGreatDoor.Tp
open Go Go.RowKit Go.Maps Go.Proofs.YtoefnmhmiphilaaGreatDoorW.PrintWords
set_option maxHeartbeats 16000000 in
set_option maxRecDepth 100000 in
theorem told_step (f : Nat) (ih : TC f) : TC (f + 1) := by
  intro W A n cap o hL i pre t hT hif hsz
  have hin : i < n := by rw [← hL.len]; exact hT.lt
  obtain ⟨b, off, rfl, hns⟩ := hL.nv.some (by have := hT.lt; omega)
  have hio := hT.lt
  obtain ⟨nn, kids⟩ := t
  have hnode := hT.node
  simp only [Tr.nd] at hnode
  have hmay := okA_may hT.ok
  have hk3 : nn.f3 = (kids.length : Int) := by
    have := hT.ok
    simp only [okA, Bool.and_eq_true, decide_eq_true_eq] at this
    exact this.1.1.1
  obtain ⟨y0, y1, y2, y3⟩ := hns.at_ i hio
  rw [hnode] at y0 y1 y2 y3
  have htx := hL.txt (o[i]) (List.getElem_mem _)
  rw [hnode] at htx
  obtain ⟨a, s, e, f3⟩ := nn
  simp only at y0 y1 y2 y3 htx hk3
  have hi0 : (i : Int) < (n : Int) := by omega
  obtain ⟨bx, hbx⟩ : ∃ bx, W.heap.size = bx := ⟨_, rfl⟩
  have hbW : Below bx W (W.alloc (.cells #[.int .i64 a, .string s, .int .i64 e, .int .i64 f3] 32)) := (Below.refl bx W).alloc (by omega) _
  have CK := Lib.hid (kids_calls (W.alloc (.cells #[.int .i64 a, .string s, .int .i64 e, .int .i64 f3] 32)) _ n cap o (hL.below hbW (by omega)) i pre (.mk ⟨a, s, e, f3⟩ kids) hT)
  simp only [Tr.kids] at CK
  rw [← pts_pos] at CK
  obtain ⟨m, hm⟩ : ∃ m, kids.length = m := ⟨_, rfl⟩
  rw [hm] at CK
  have hlen := hT.len
  have hfew := hL.few
  have hmn : m ≤ n := by
    rw [flat, List.length_append, List.length_singleton] at hlen
    have : kids.length ≤ (flats kids).length := by
      rw [flats_len]
      have : ∀ l : List Tr, l.length ≤ (l.map (fun t => (flat t).length)).sum := by
        intro l
        induction l with
        | nil => simp
        | cons u l ih => have := List.length_pos_iff.2 (flat_ne u); simp only [List.length_cons, List.map_cons, List.sum_cons]; omega
      exact this kids
    omega
  obtain ⟨P0, hP0⟩ : ∃ P0, ptsOf pre.length kids = P0 := ⟨_, rfl⟩
  have HPL := Lib.hid (show P0.length = m by rw [← hP0, pts_len, hm])
  have HPT := Lib.hid (show ∀ p ∈ P0, ∃ pre', AtT o p.1 pre' p.2 ∧ p.1 < i by rw [← hP0]; exact pts_at hT)
  have HPS := Lib.hid (show P0.map (fun p : PT => p.2) = kids by rw [← hP0]; exact pts_snd _ _)
  rw [hP0] at CK
  have HL := Lib.hid hL
  have IH := Lib.hid ih
  have HFIN := Lib.hid (show i ≤ f by omega)
  have HTE := Lib.hid (show tell (.mk ⟨a, s, e, f3⟩ kids) = head ⟨a, s, e, f3⟩ ++ tells kids ++ foot ⟨a, s, e, f3⟩ from rfl)
  have HSZ := Lib.hid (show (tells kids).length ≤ 1099511627776 by rw [HTE.out, List.length_append, List.length_append] at hsz; omega)
  have HSZ2 := Lib.hid hsz
  have HMAY := Lib.hid hmay
  have HK3 := Lib.hid (show f3 = (m : Int) by rw [hk3, hm])
  have HM := Lib.hid hm
  have F0 := Lib.hid (show (W.alloc (.cells #[.int .i64 a, .string s, .int .i64 e, .int .i64 f3] 32)).heap[bx]? = some (.cells #[.int .i64 a, .string s, .int .i64 e, .int .i64 f3] 32 (0, 0)) by rw [← hbx]; exact blk_new W _)
  have HBX := Lib.hid hbx
  have HBW := Lib.hid hbW
  obtain ⟨qb, hqb⟩ := quoteV_quo s
  have CQ := Lib.hid (fun W => refquote_calls W s (by omega))
  rw [hqb] at CQ
  clear hL hT hns ih hnode hm hlen hif hP0 hsz hmay hk3 hbx hbW hqb
  go_enter Tryz.func34, Tryz.ntmps34
  go_wp2_with (first | (go_at_call 35; (with_reducible refine CK.out.mono ?_); rintro e1 W1 ⟨A1, c1, rfl, ho, hb⟩; have O1 := Lib.hid ho; have F1 := Lib.hid (blk_below F0.out hb); have B1 := Lib.hid (HBW.out.trans (hb.mono (by rw [← HBX.out]; exact HBW.out.size))); clear ho hb y0 y1 y2 y3))
  obtain ⟨B3, hB3⟩ : ∃ B3, W1.heap.size = B3 := ⟨_, rfl⟩
  have HB3 := Lib.hid hB3
  clear hB3
  go_loopg [7, 8] m (fun k v7 v8 W' => ∃ (j : Nat) (S : ByteArray), v7 = .string S ∧ v8 = .int .i64 (j : Int) ∧ Hid (S = mkB (tells (kids.take j))) ∧ Hid (k = m - j) ∧ Aside0 (j ≤ m) ∧ Hid (Below B3 W1 W'))
  case atStart => exact ⟨0, ⟨#[]⟩, rfl, rfl, Lib.hid rfl, Lib.hid rfl, ⟨Nat.zero_le _⟩, Lib.hid (Below.refl _ _)⟩
  case round =>
    obtain ⟨j, S, rfl, rfl, HS, HG, HJ, HB⟩ := hrel
    have hjm := HJ.out
    have HBW2 := Lib.hid (B1.out.trans (HB.out.mono (by rw [← HB3.out, ← HBX.out]; exact B1.out.size)))
    by_cases hj : j < m
    · have d2 : decide ((j : Int) < (m : Int)) = true := by simp; omega
      have hjl : j < P0.length := by rw [HPL.out]; exact hj
      have hjk : j < kids.length := by rw [HM.out]; exact hj
      have hjp : j < (posOf P0).length := by rw [posOf_len]; exact hjl
      obtain ⟨bk, hbk, rj⟩ := own_read (own_bel O1.out HB.out (Nat.le_of_eq HB3.out)) j hjp
      subst hbk
      obtain ⟨x, hx⟩ : ∃ x, P0[j]'hjl = x := ⟨_, rfl⟩
      have vx : (posOf P0)[j]'hjp = (x.1 : Int) := by rw [posOf_get P0 j hjl, hx]
      rw [vx] at rj
      have hxk : kids[j]'hjk = x.2 := by
        have h1 : (P0.map (fun p : PT => p.2))[j]? = some x.2 := by rw [List.getElem?_map, List.getElem?_eq_getElem hjl, hx]; rfl
        rw [HPS.out, List.getElem?_eq_getElem hjk] at h1
        exact Option.some.inj h1
      obtain ⟨pre', hAx, hxi⟩ := HPT.out x (by rw [← hx]; exact List.getElem_mem _)
      have hTk : (tell x.2).length ≤ (tells kids).length := tells_mem (by rw [← hxk]; exact List.getElem_mem _)
      have hst := tells_snoc (kids.take j) x.2
      rw [← hxk, ← List.take_succ_eq_append_getElem hjk, hxk] at hst
      have hle := tells_take kids (j + 1)
      rw [hst, List.length_append, List.length_append] at hle
      have CT := Lib.hid (fun W1 (hb : Below bx W W1) => IH.out W1 _ n cap o (HL.out.below hb (Nat.le_of_eq HBX.out)) x.1 pre' x.2 hAx (by have := HFIN.out; omega) (by have := HSZ.out; omega))
      have hSs : S.size = (tells (kids.take j)).length := by rw [HS.out]; rfl
      obtain ⟨T, hT⟩ : ∃ T, mkB (tell x.2) = T := ⟨_, rfl⟩
      rw [hT] at CT
      have hTs : T.size = (tell x.2).length := by rw [← hT]; rfl
      have hbig := HSZ.out
      have hjm2 : (j : Int) < (m : Int) := by omega
      have HTT := Lib.hid hT
      have HST := Lib.hid hst
      by_cases hj0 : j = 0
      · have d4 : decide ((0 : Int) < (j : Int)) = false := by simp; omega
        have d5 : decide (0 < j) = false := by simp; omega
        rw [if_pos (by rw [hj0]; rfl), List.length_nil] at hle
        have z1 : ¬ 9223372036854775807 < S.size + T.size := by omega
        have HJ0 := Lib.hid hj0
        clear hx vx hxk hAx hTk hst hle hSs hT hTs hbig hj0
        go_wp2_with (first | (go_at_call 34; (with_reducible refine (CT.out _ HBW2.out).mono ?_); rintro e1 W4 ⟨rfl, hb⟩; have B4 := Lib.hid (HB.out.trans (hb.mono (by rw [← HB3.out]; exact HB.out.size))); clear hb))
        go_roundg (m - (j + 1))
        case rel => exact ⟨j + 1, _, rfl, rfl, Lib.hid (by rw [HST.out, HS.out, ← HTT.out, if_pos (by rw [HJ0.out]; rfl), List.append_nil, mkB_append]), Lib.hid rfl, ⟨by omega⟩, B4⟩
        case measure => have := HG.out; omega
      · have d4 : decide ((0 : Int) < (j : Int)) = true := by simp; omega
        have d5 : decide (0 < j) = true := by simp; omega
        have hne : kids.take j ≠ [] := fun e => by have := congrArg List.length e; rw [List.length_take, List.length_nil] at this; omega
        rw [if_neg hne, List.length_singleton] at hle
        have z0 : ¬ 9223372036854775807 < S.size + 1 := by omega
        have z1 : ¬ 9223372036854775807 < S.size + 1 + T.size := by omega
        have HNE := Lib.hid hne
        clear hx vx hxk hAx hTk hst hle hSs hT hTs hbig hj0 hne
        go_wp2_with (first | (go_at_call 34; (with_reducible refine (CT.out _ HBW2.out).mono ?_); rintro e1 W4 ⟨rfl, hb⟩; have B4 := Lib.hid (HB.out.trans (hb.mono (by rw [← HB3.out]; exact HB.out.size))); clear hb))
        go_roundg (m - (j + 1))
        case rel => exact ⟨j + 1, _, rfl, rfl, Lib.hid (by rw [HST.out, HS.out, ← HTT.out, if_neg HNE.out, ← mkB_append, ← mkB_append]; rfl), Lib.hid rfl, ⟨by omega⟩, B4⟩
        case measure => have := HG.out; omega
    · have hje : j = m := by omega
      subst hje
      have d2 : decide ((j : Int) < (j : Int)) = false := by simp
      have hS := HS.out
      rw [List.take_of_length_le (by rw [HM.out]; exact Nat.le_refl _)] at hS
      have F2' := (HB.out.block bx (by rw [← HB3.out]; exact blk_lt F1.out)).trans F1.out
      rw [← HBX.out] at F2'
      have F2 := Lib.hid F2'
      clear F2'
      have hTE := HTE.out
      have hSZ := HSZ2.out
      have hmay := HMAY.out
      have hSs : S.size = (tells kids).length := by rw [hS]; rfl
      obtain ⟨Q, hQ⟩ : ∃ Q, mkB (quo s) = Q := ⟨_, rfl⟩
      rw [hQ] at CQ
      have hmk : mayK ⟨a, s, e, f3⟩ = true := by simp only [may, Bool.and_eq_true] at hmay; exact hmay.1
      rcases may_kind hmay with h0 | h0 | h0 | h0 | h0 | h0 | h0
      · simp only at h0
        subst h0
        have hk0 : kids = [] := by
          have h3 := HK3.out
          simp [mayK] at hmk
          exact List.eq_nil_of_length_eq_zero (by rw [HM.out]; omega)
        have HRES := Lib.hid (show mkB (tell (.mk ⟨1, s, e, f3⟩ kids)) = ⟨#[110, 117, 108, 108]⟩ by rw [hTE, hk0]; rfl)
        clear hS hk0 hTE hSZ hmay hSs hQ hmk
        have x1 := (blk_cell F2.out 1).trans rfl
        go_wp2_with (first | (go_at_call 53; (with_reducible refine (CQ.out _).mono ?_); rintro e1 W5 ⟨rfl, hb⟩; have B5 := Lib.hid (HBW2.out.trans (hb.mono (by rw [← HBX.out]; exact HBW2.out.size))); have F5 := Lib.hid (blk_below F2.out hb); have x0 := (blk_cell F5.out 0).trans rfl; have x1 := (blk_cell F5.out 1).trans rfl; have x2 := (blk_cell F5.out 2).trans rfl; have x3 := (blk_cell F5.out 3).trans rfl; clear hb) | (go_at_call 54; (with_reducible refine (CD.out _).mono ?_); rintro e1 W6 ⟨rfl, hw⟩; have hw2 := hw.symm; clear hw; subst hw2))
        go_ret
        exact ⟨by rw [HRES.out]; rfl, by rw [HBX.out]; exact B5.out⟩
      · simp only at h0
        subst h0
        have hk0 : kids = [] := by
          have h3 := HK3.out
          simp [mayK] at hmk
          exact List.eq_nil_of_length_eq_zero (by rw [HM.out]; omega)
        by_cases he1 : e = 1
        · have t1 : (e == 1) = true := by simp [he1]
          have HRES := Lib.hid (show mkB (tell (.mk ⟨2, s, e, f3⟩ kids)) = ⟨#[116, 114, 117, 101]⟩ by rw [hTE, hk0]; simp [head, foot, tells, he1, mkB])
          clear hS hk0 hTE hSZ hmay hSs hQ hmk he1
          have x1 := (blk_cell F2.out 1).trans rfl
          go_wp2_with (first | (go_at_call 53; (with_reducible refine (CQ.out _).mono ?_); rintro e1 W5 ⟨rfl, hb⟩; have B5 := Lib.hid (HBW2.out.trans (hb.mono (by rw [← HBX.out]; exact HBW2.out.size))); have F5 := Lib.hid (blk_below F2.out hb); have x0 := (blk_cell F5.out 0).trans rfl; have x1 := (blk_cell F5.out 1).trans rfl; have x2 := (blk_cell F5.out 2).trans rfl; have x3 := (blk_cell F5.out 3).trans rfl; clear hb) | (go_at_call 54; (with_reducible refine (CD.out _).mono ?_); rintro e1 W6 ⟨rfl, hw⟩; have hw2 := hw.symm; clear hw; subst hw2))
          go_ret
          exact ⟨by rw [HRES.out]; rfl, by rw [HBX.out]; exact B5.out⟩
        · have t1 : (e == 1) = false := by simp [he1]
          have HRES := Lib.hid (show mkB (tell (.mk ⟨2, s, e, f3⟩ kids)) = ⟨#[102, 97, 108, 115, 101]⟩ by rw [hTE, hk0]; simp [head, foot, tells, he1, mkB])
          clear hS hk0 hTE hSZ hmay hSs hQ hmk he1
          have x1 := (blk_cell F2.out 1).trans rfl
          go_wp2_with (first | (go_at_call 53; (with_reducible refine (CQ.out _).mono ?_); rintro e1 W5 ⟨rfl, hb⟩; have B5 := Lib.hid (HBW2.out.trans (hb.mono (by rw [← HBX.out]; exact HBW2.out.size))); have F5 := Lib.hid (blk_below F2.out hb); have x0 := (blk_cell F5.out 0).trans rfl; have x1 := (blk_cell F5.out 1).trans rfl; have x2 := (blk_cell F5.out 2).trans rfl; have x3 := (blk_cell F5.out 3).trans rfl; clear hb) | (go_at_call 54; (with_reducible refine (CD.out _).mono ?_); rintro e1 W6 ⟨rfl, hw⟩; have hw2 := hw.symm; clear hw; subst hw2))
          go_ret
          exact ⟨by rw [HRES.out]; rfl, by rw [HBX.out]; exact B5.out⟩
      · simp only at h0
        subst h0
        have hk0 : kids = [] := by
          have h3 := HK3.out
          simp [mayK] at hmk
          exact List.eq_nil_of_length_eq_zero (by rw [HM.out]; omega)
        have CD := Lib.hid (fun W => digits_calls W e (by simp [mayK] at hmk; omega) (by simp [mayK] at hmk; omega))
        obtain ⟨D, hD⟩ : ∃ D, mkB (Lib.itoa e) = D := ⟨_, rfl⟩
        rw [hD] at CD
        have HRES := Lib.hid (show mkB (tell (.mk ⟨3, s, e, f3⟩ kids)) = D by rw [hTE, hk0, ← hD]; simp [head, foot, tells])
        clear hS hk0 hD hTE hSZ hmay hSs hQ hmk
        have x1 := (blk_cell F2.out 1).trans rfl
        go_wp2_with (first | (go_at_call 53; (with_reducible refine (CQ.out _).mono ?_); rintro e1 W5 ⟨rfl, hb⟩; have B5 := Lib.hid (HBW2.out.trans (hb.mono (by rw [← HBX.out]; exact HBW2.out.size))); have F5 := Lib.hid (blk_below F2.out hb); have x0 := (blk_cell F5.out 0).trans rfl; have x1 := (blk_cell F5.out 1).trans rfl; have x2 := (blk_cell F5.out 2).trans rfl; have x3 := (blk_cell F5.out 3).trans rfl; clear hb) | (go_at_call 54; (with_reducible refine (CD.out _).mono ?_); rintro e1 W6 ⟨rfl, hw⟩; have hw2 := hw.symm; clear hw; subst hw2))
        go_ret
        exact ⟨by rw [HRES.out]; rfl, by rw [HBX.out]; exact B5.out⟩
      · simp only at h0
        subst h0
        have hk0 : kids = [] := by
          have h3 := HK3.out
          simp [mayK] at hmk
          exact List.eq_nil_of_length_eq_zero (by rw [HM.out]; omega)
        have HRES := Lib.hid (show mkB (tell (.mk ⟨4, s, e, f3⟩ kids)) = Q by rw [hTE, hk0, ← hQ]; simp [head, foot, tells])
        clear hS hk0 hTE hSZ hmay hSs hQ hmk
        have x1 := (blk_cell F2.out 1).trans rfl
        go_wp2_with (first | (go_at_call 53; (with_reducible refine (CQ.out _).mono ?_); rintro e1 W5 ⟨rfl, hb⟩; have B5 := Lib.hid (HBW2.out.trans (hb.mono (by rw [← HBX.out]; exact HBW2.out.size))); have F5 := Lib.hid (blk_below F2.out hb); have x0 := (blk_cell F5.out 0).trans rfl; have x1 := (blk_cell F5.out 1).trans rfl; have x2 := (blk_cell F5.out 2).trans rfl; have x3 := (blk_cell F5.out 3).trans rfl; clear hb) | (go_at_call 54; (with_reducible refine (CD.out _).mono ?_); rintro e1 W6 ⟨rfl, hw⟩; have hw2 := hw.symm; clear hw; subst hw2))
        go_ret
        exact ⟨by rw [HRES.out]; rfl, by rw [HBX.out]; exact B5.out⟩
      · simp only at h0
        subst h0
        have z1 : ¬ 9223372036854775807 < 1 + S.size := by rw [hTE, List.length_append, List.length_append] at hSZ; omega
        have z2 : ¬ 9223372036854775807 < 1 + S.size + 1 := by rw [hTE, List.length_append, List.length_append] at hSZ; omega
        have HRES := Lib.hid (show mkB (tell (.mk ⟨5, s, e, f3⟩ kids)) = ⟨#[91]⟩ ++ S ++ ⟨#[93]⟩ by rw [hTE, hS, ← mkB_append, ← mkB_append]; rfl)
        clear hS hTE hSZ hmay hSs hQ hmk
        have x1 := (blk_cell F2.out 1).trans rfl
        go_wp2_with (first | (go_at_call 53; (with_reducible refine (CQ.out _).mono ?_); rintro e1 W5 ⟨rfl, hb⟩; have B5 := Lib.hid (HBW2.out.trans (hb.mono (by rw [← HBX.out]; exact HBW2.out.size))); have F5 := Lib.hid (blk_below F2.out hb); have x0 := (blk_cell F5.out 0).trans rfl; have x1 := (blk_cell F5.out 1).trans rfl; have x2 := (blk_cell F5.out 2).trans rfl; have x3 := (blk_cell F5.out 3).trans rfl; clear hb) | (go_at_call 54; (with_reducible refine (CD.out _).mono ?_); rintro e1 W6 ⟨rfl, hw⟩; have hw2 := hw.symm; clear hw; subst hw2))
        go_ret
        exact ⟨by rw [HRES.out]; rfl, by rw [HBX.out]; exact B5.out⟩
      · simp only at h0
        subst h0
        have hq2 : (quo s).length + 1 + (tells kids).length ≤ 1099511627776 := by rw [hTE, List.length_append, List.length_append] at hSZ; simp [head, foot] at hSZ; omega
        have hQs : Q.size = (quo s).length := by rw [← hQ]; rfl
        have z1 : ¬ 9223372036854775807 < Q.size + 1 := by omega
        have z2 : ¬ 9223372036854775807 < Q.size + 1 + S.size := by omega
        have HRES := Lib.hid (show mkB (tell (.mk ⟨6, s, e, f3⟩ kids)) = Q ++ ⟨#[58]⟩ ++ S by rw [hTE, hS, ← hQ, show (⟨#[58]⟩ : ByteArray) = mkB [58] from rfl, mkB_append, mkB_append]; simp [head, foot])
        clear hS hq2 hQs hTE hSZ hmay hSs hQ hmk
        have x1 := (blk_cell F2.out 1).trans rfl
        go_wp2_with (first | (go_at_call 53; (with_reducible refine (CQ.out _).mono ?_); rintro e1 W5 ⟨rfl, hb⟩; have B5 := Lib.hid (HBW2.out.trans (hb.mono (by rw [← HBX.out]; exact HBW2.out.size))); have F5 := Lib.hid (blk_below F2.out hb); have x0 := (blk_cell F5.out 0).trans rfl; have x1 := (blk_cell F5.out 1).trans rfl; have x2 := (blk_cell F5.out 2).trans rfl; have x3 := (blk_cell F5.out 3).trans rfl; clear hb) | (go_at_call 54; (with_reducible refine (CD.out _).mono ?_); rintro e1 W6 ⟨rfl, hw⟩; have hw2 := hw.symm; clear hw; subst hw2))
        go_ret
        exact ⟨by rw [HRES.out]; rfl, by rw [HBX.out]; exact B5.out⟩
      · simp only at h0
        subst h0
        have z1 : ¬ 9223372036854775807 < 1 + S.size := by rw [hTE, List.length_append, List.length_append] at hSZ; omega
        have z2 : ¬ 9223372036854775807 < 1 + S.size + 1 := by rw [hTE, List.length_append, List.length_append] at hSZ; omega
        have HRES := Lib.hid (show mkB (tell (.mk ⟨7, s, e, f3⟩ kids)) = ⟨#[123]⟩ ++ S ++ ⟨#[125]⟩ by rw [hTE, hS, ← mkB_append, ← mkB_append]; rfl)
        clear hS hTE hSZ hmay hSs hQ hmk
        have x1 := (blk_cell F2.out 1).trans rfl
        go_wp2_with (first | (go_at_call 53; (with_reducible refine (CQ.out _).mono ?_); rintro e1 W5 ⟨rfl, hb⟩; have B5 := Lib.hid (HBW2.out.trans (hb.mono (by rw [← HBX.out]; exact HBW2.out.size))); have F5 := Lib.hid (blk_below F2.out hb); have x0 := (blk_cell F5.out 0).trans rfl; have x1 := (blk_cell F5.out 1).trans rfl; have x2 := (blk_cell F5.out 2).trans rfl; have x3 := (blk_cell F5.out 3).trans rfl; clear hb) | (go_at_call 54; (with_reducible refine (CD.out _).mono ?_); rintro e1 W6 ⟨rfl, hw⟩; have hw2 := hw.symm; clear hw; subst hw2))
        go_ret
        exact ⟨by rw [HRES.out]; rfl, by rw [HBX.out]; exact B5.out⟩
theorem told_all : ∀ f, TC f
  | 0 => fun _ _ _ _ _ _ _ _ _ _ h => absurd h (Nat.not_lt_zero _)
  | f + 1 => told_step f (told_all f)
end Go.Proofs.YtoefnmhmiphilaaGreatDoor.Tp

namespace Go.Proofs.YtoefnmhmiphilaaGreatDoor.Tp
open Go
theorem nd_ext {x y : Nd} (h0 : x.f0 = y.f0) (h1 : x.f1 = y.f1) (h2 : x.f2 = y.f2) (h3 : x.f3 = y.f3) : x = y := by
  cases x; cases y; simp only at h0 h1 h2 h3; subst h0; subst h1; subst h2; subst h3; rfl
instance : DecidableEq Nd := fun x y => if h : x.f0 = y.f0 ∧ x.f1 = y.f1 ∧ x.f2 = y.f2 ∧ x.f3 = y.f3 then .isTrue (nd_ext h.1 h.2.1 h.2.2.1 h.2.2.2) else .isFalse (fun e => h (by subst e; exact ⟨rfl, rfl, rfl, rfl⟩))
theorem escs_len : ∀ {s y : List UInt8}, escs s = some y → y.length ≤ 2 * s.length
  | [], y, h => by cases h; simp
  | c :: t, y, h => by
    unfold escs at h
    split at h
    · rename_i x y' h1 h2
      cases h
      have := esc_len h1
      have := escs_len h2
      simp only [List.length_append, List.length_cons]; omega
    · cases h
theorem quo_len (s : ByteArray) : (quo s).length ≤ 2 * s.size + 2 := by
  unfold quo quote
  cases h : escs s.data.toList with
  | none => simp
  | some y =>
    have := escs_len h
    have h2 : s.data.toList.length = s.size := by simp
    simp only [Option.map_some, Option.getD_some, List.length_append, List.length_singleton]; omega
theorem itoa_len {n : Int} (h1 : -999999 ≤ n) (h2 : n ≤ 999999) : (Lib.itoa n).length ≤ 8 := by
  have hl : (Lib.decDigits n.natAbs).length ≤ 6 := by rw [Lib.decDigits_length]; exact nDig_le 5 _ (by omega)
  have hl2 : (Lib.decDigits n.toNat).length ≤ 6 := by rw [Lib.decDigits_length]; exact nDig_le 5 _ (by omega)
  unfold Lib.itoa
  split
  · simp only [List.length_cons]; omega
  · omega
theorem head_len {n : Nd} {K : Nat} (hm : may n = true) (hK : n.f1.size ≤ K) : (head n).length ≤ 2 * K + 8 := by
  have hq := quo_len n.f1
  have hmk : mayK n = true := by simp only [may, Bool.and_eq_true] at hm; exact hm.1
  unfold head
  split
  · simp
  · split
    · split <;> simp
    · split
      · rename_i h3
        have : -999999 ≤ n.f2 ∧ n.f2 ≤ 999999 := by simp [mayK, h3] at hmk; omega
        have := itoa_len this.1 this.2
        omega
      · split
        · omega
        · split
          · simp; omega
          · split
            · simp
            · split <;> simp
theorem foot_len (n : Nd) : (foot n).length ≤ 1 := by unfold foot; split; · simp
                                                      · split <;> simp
theorem more_bound {K : Nat} : ∀ (b : List Tr), (∀ t ∈ b, (tell t).length + 1 ≤ (flat t).length * (2 * K + 32)) → (more b).length ≤ (flats b).length * (2 * K + 32)
  | [], _ => by simp [more, flats]
  | t :: b, h => by
    have h1 := h t (List.mem_cons_self ..)
    have h2 := more_bound b (fun u hu => h u (List.mem_cons_of_mem _ hu))
    simp only [more, flats, List.length_append, List.length_cons, Nat.add_mul]
    omega
theorem tells_more (b : List Tr) : (tells b).length ≤ (more b).length := by
  cases b with
  | nil => simp [tells]
  | cons t b => simp only [tells, more, List.length_append, List.length_cons]; omega
theorem tell_bound (K : Nat) : ∀ t : Tr, okT t = true → (∀ n ∈ flat t, n.f1.size ≤ K) → (tell t).length + 1 ≤ (flat t).length * (2 * K + 32) := by
  apply Tr.ind
  intro n b ih hok hK
  have hA : okA (.mk n b) = true := by have := hok; rw [okT_iff, Bool.and_eq_true] at this; exact this.1
  have hm : may n = true := by simp only [okA, alone, Bool.and_eq_true] at hA; exact hA.1.1.2.2
  have hb : okTs b = true := by simp only [okT, Bool.and_eq_true] at hok; first | exact hok.2 | exact hok.1.2
  rw [okTs_all, List.all_eq_true] at hb
  have hn := head_len hm (hK n (by simp [flat]))
  have hf := foot_len n
  have hmo := more_bound (K := K) b (fun t ht => ih t ht (hb t ht) (fun m hmm => hK m (by
    rw [flat, flats_map]; exact List.mem_append_left _ (List.mem_flatten.2 ⟨flat t, List.mem_map.2 ⟨t, ht, rfl⟩, hmm⟩))))
  have ht := tells_more b
  rw [tell, flat, List.length_append, List.length_append, List.length_append, List.length_singleton, Nat.add_mul]
  omega
theorem sort_mem : ∀ (t : Tr), ∀ n ∈ flat (sortT t), n ∈ flat t := by
  apply Tr.ind
  intro n b ih m hm
  rw [sortT, flat, flats_map] at hm
  rw [flat, flats_map]
  rcases List.mem_append.1 hm with h | h
  · refine List.mem_append_left _ ?_
    obtain ⟨l, hl, hm⟩ := List.mem_flatten.1 h
    obtain ⟨t, ht, rfl⟩ := List.mem_map.1 hl
    rw [(kids_perm n _).mem_iff, sortTs_map] at ht
    obtain ⟨u, hu, rfl⟩ := List.mem_map.1 ht
    exact List.mem_flatten.2 ⟨flat u, List.mem_map.2 ⟨u, hu, rfl⟩, ih u hu m hm⟩
  · exact List.mem_append_right _ h
theorem show_bound {o : List Nd} {t : Tr} (h : apart o = .ok t) {K : Nat} (hK : ∀ n ∈ o, n.f1.size ≤ K) : (tell (sortT t)).length ≤ o.length * (2 * K + 32) := by
  obtain ⟨_, h2, h3, _, _⟩ := apart_ok.1 h
  have hs := sort_facts t h3
  have := tell_bound K (sortT t) hs.1 (fun n hn => hK n (by rw [← h2]; exact sort_mem t n hn))
  rw [hs.2.2.1, h2] at this
  omega
def showOf (o : List Nd) : List UInt8 × Int :=
  match apart o with
  | .error x => ([], x)
  | .ok t => if 20000 < (tell (sortT t)).length then ([], 2) else (tell (sortT t), 0)
theorem showOf_err {o : List Nd} {x : Int} (h : apart o = .error x) : showOf o = ([], x) := by unfold showOf; rw [h]
theorem showOf_big {o : List Nd} {t : Tr} (h : apart o = .ok t) (hb : 20000 < (tell (sortT t)).length) : showOf o = ([], 2) := by unfold showOf; rw [h]; exact if_pos hb
theorem showOf_ok {o : List Nd} {t : Tr} (h : apart o = .ok t) (hb : ¬ 20000 < (tell (sortT t)).length) : showOf o = (tell (sortT t), 0) := by unfold showOf; rw [h]; exact if_neg hb
def sameOf (a b : List Nd) : Bool :=
  match apart a, apart b with
  | .ok t, .ok u => decide (flat (sortT t) = flat (sortT u))
  | _, _ => false
def getOf (o : List Nd) (key : List UInt8) : Option Tr :=
  match apart o with
  | .ok t => getT t key
  | .error _ => none
end Go.Proofs.YtoefnmhmiphilaaGreatDoor.Tp

namespace Go.Proofs.YtoefnmhmiphilaaGreatDoor.Tp
open Go Go.RowKit Go.Maps Go.Proofs.YtoefnmhmiphilaaGreatDoorW.PrintWords
theorem Ns.drewN {W : World} {b off : Nat} {o : List Nd} (h : Ns W b off o) (n : Nat) : Ns (W.drewN n) b off o := fun i hi => by rw [← h i hi]; rfl
set_option maxHeartbeats 8000000 in
set_option maxRecDepth 100000 in
theorem sameNe_calls (W : World) (A1 A2 : Option Addr) (o1 o2 : List Nd) (n1 n2 c1 c2 : Nat) (h1 : o1.length = n1) (h2 : o2.length = n2) (hne : n1 ≠ n2) :
    Calls Tryz.prog 14 #[.slice A1 n1 c1, .slice A2 n2 c2] W fun e W' => e = .returned (.bool (decide (o1 = o2))) ∧ ∃ n, W' = W.drewN n := by
  rw [decide_eq_false (fun e => hne (by rw [← h1, ← h2, e]))]
  have d1 : ((n1 : Int) != (n2 : Int)) = true := by simp; omega
  clear h1 h2 hne
  go_enter Tryz.func14, Tryz.ntmps14
  go_wp2_with fail
  go_ret
  exact ⟨rfl, 0, rfl⟩
set_option maxHeartbeats 8000000 in
set_option maxRecDepth 100000 in
theorem sameEq_calls (W : World) (b1 b2 s1 s2 : Nat) (o1 o2 : List Nd) (nn c1 c2 : Nat) (hn1 : o1.length = nn) (hn2 : o2.length = nn) (h1 : Ns W b1 s1 o1) (h2 : Ns W b2 s2 o2) (hl : nn ≤ 4294967296) :
    Calls Tryz.prog 14 #[.slice (some ⟨b1, s1, none⟩) nn c1, .slice (some ⟨b2, s2, none⟩) nn c2] W fun e W' => e = .returned (.bool (decide (o1 = o2))) ∧ ∃ n, W' = W.drewN n := by
  have H1 := Lib.hid h1
  have H2 := Lib.hid h2
  have HL := Lib.hid hl
  have HN1 := Lib.hid hn1
  have HN2 := Lib.hid hn2
  clear h1 h2 hl hn1 hn2
  have d0 : ((nn : Int) != (nn : Int)) = false := by simp
  go_enter Tryz.func14, Tryz.ntmps14
  go_wp2_with fail
  go_loopg [5] nn (fun k v5 W' => ∃ q : Nat, v5 = .int .i64 (q : Int) ∧ Hid (k = nn - q) ∧ Hid (q ≤ nn) ∧ Hid (o1.take q = o2.take q) ∧ Hid (∃ n, W' = W.drewN n))
  case atStart => exact ⟨0, rfl, Lib.hid rfl, Lib.hid (Nat.zero_le _), Lib.hid rfl, Lib.hid ⟨0, rfl⟩⟩
  case round =>
    obtain ⟨q, rfl, HK, HQ, HT, HW⟩ := hrel
    by_cases hlt : q < nn
    · have d1 : decide ((q : Int) < (nn : Int)) = true := by simp; omega
      have l1 : q < o1.length := by rw [HN1.out]; exact hlt
      have l2 : q < o2.length := by rw [HN2.out]; exact hlt
      obtain ⟨x0, x1, x2, x3⟩ := (show Ns wr b1 s1 o1 by obtain ⟨n, e⟩ := HW.out; rw [e]; exact H1.out.drewN n).at_ q l1
      obtain ⟨y0, y1, y2, y3⟩ := (show Ns wr b2 s2 o2 by obtain ⟨n, e⟩ := HW.out; rw [e]; exact H2.out.drewN n).at_ q l2
      obtain ⟨x, hx⟩ : ∃ x, o1[q]'l1 = x := ⟨_, rfl⟩
      obtain ⟨y, hy⟩ : ∃ y, o2[q]'l2 = y := ⟨_, rfl⟩
      rw [hx] at x0 x1 x2 x3
      rw [hy] at y0 y1 y2 y3
      have HX := Lib.hid hx
      have HY := Lib.hid hy
      clear hx hy
      by_cases hxy : x = y
      · subst hxy
        go_wp2_with fail
        go_quiet (fail)
        go_wp2
        have hw : wrap64 ((q : Int) + 1) = ((q + 1 : Nat) : Int) := by have := HL.out; unfold wrap64; omega
        rw [hw]
        go_roundg (nn - (q + 1))
        case rel => exact ⟨q + 1, rfl, Lib.hid rfl, Lib.hid hlt, Lib.hid (by rw [List.take_succ_eq_append_getElem l1, List.take_succ_eq_append_getElem l2, HT.out, HX.out, HY.out]), Lib.hid (by obtain ⟨n, e⟩ := HW.out; exact ⟨n + nq, by rw [e]; simp [World.drewN, Nat.add_assoc]⟩)⟩
        case measure => have := HK.out; omega
      · have HNE := Lib.hid (show o1 ≠ o2 by
          intro e
          have h1 : o1[q]? = o2[q]? := by rw [e]
          rw [List.getElem?_eq_getElem l1, List.getElem?_eq_getElem l2, HX.out, HY.out] at h1
          exact hxy (Option.some.inj h1))
        obtain ⟨a, s, e, k⟩ := x
        obtain ⟨a', s', e', k'⟩ := y
        simp only at x0 x1 x2 x3 y0 y1 y2 y3
        have HC := Lib.hid hxy
        clear hxy
        by_cases q0 : a = a'
        · subst q0
          by_cases q1 : s = s'
          · subst q1
            by_cases q2 : e = e'
            · subst q2
              have q3 : (k == k') = false := by
                cases h : k == k' with
                | false => rfl
                | true => exact absurd (by rw [eq_of_beq h]) HC.out
              go_wp2_with fail
              go_quiet (fail)
              go_wp2
              go_ret
              exact ⟨by rw [decide_eq_false HNE.out]; rfl, by obtain ⟨n, e⟩ := HW.out; exact ⟨n + nq, by rw [e]; simp [World.drewN, Nat.add_assoc]⟩⟩
            · have q3 : (e == e') = false := by simp [q2]
              clear q2
              go_wp2_with fail
              go_quiet (fail)
              go_wp2
              go_ret
              exact ⟨by rw [decide_eq_false HNE.out]; rfl, by obtain ⟨n, e⟩ := HW.out; exact ⟨n + nq, by rw [e]; simp [World.drewN, Nat.add_assoc]⟩⟩
          · have q3 : (s.toList == s'.toList) = false := by
              cases h : s.toList == s'.toList with
              | false => rfl
              | true =>
                have h := eq_of_beq h
                rw [ByteArray.toList_eq, ByteArray.toList_eq] at h
                refine absurd ?_ q1
                obtain ⟨⟨u⟩⟩ := s
                obtain ⟨⟨v⟩⟩ := s'
                rw [show u = v from h]
            clear q1
            go_wp2_with fail
            go_quiet (fail)
            go_wp2
            go_ret
            exact ⟨by rw [decide_eq_false HNE.out]; rfl, by obtain ⟨n, e⟩ := HW.out; exact ⟨n + nq, by rw [e]; simp [World.drewN, Nat.add_assoc]⟩⟩
        · have q3 : (a == a') = false := by simp [q0]
          clear q0
          go_wp2_with fail
          go_quiet (fail)
          go_wp2
          go_ret
          exact ⟨by rw [decide_eq_false HNE.out]; rfl, by obtain ⟨n, e⟩ := HW.out; exact ⟨n + nq, by rw [e]; simp [World.drewN, Nat.add_assoc]⟩⟩
    · have d1 : decide ((q : Int) < (nn : Int)) = false := by simp; omega
      have HEQ := Lib.hid (show o1 = o2 by have := HT.out; rwa [List.take_of_length_le (by rw [HN1.out]; omega), List.take_of_length_le (by rw [HN2.out]; omega)] at this)
      go_wp2_with fail
      go_ret
      exact ⟨by rw [decide_eq_true HEQ.out]; rfl, HW.out⟩
set_option maxHeartbeats 4000000 in
set_option maxRecDepth 100000 in
theorem same0_calls (W : World) (A1 A2 : Option Addr) (c1 c2 : Nat) :
    Calls Tryz.prog 14 #[.slice A1 0 c1, .slice A2 0 c2] W fun e W' => e = .returned (.bool true) ∧ ∃ n, W' = W.drewN n := by
  go_enter Tryz.func14, Tryz.ntmps14
  go_wp2_with fail
  go_loopg [5] 0 (fun k v5 W' => v5 = .int .i64 0 ∧ Hid (W' = W))
  case atStart => exact ⟨rfl, Lib.hid rfl⟩
  case round =>
    obtain ⟨rfl, HW⟩ := hrel
    go_wp2_with fail
    go_ret
    exact ⟨rfl, 0, HW.out⟩
theorem rsame_calls (W : World) (A1 A2 : Option Addr) (o1 o2 : List Nd) (n1 n2 c1 c2 : Nat) (hn1 : o1.length = n1) (hn2 : o2.length = n2) (h1 : Nv W A1 o1) (h2 : Nv W A2 o2) (hl : n1 ≤ 4294967296) :
    Calls Tryz.prog 14 #[.slice A1 n1 c1, .slice A2 n2 c2] W fun e W' => e = .returned (.bool (decide (o1 = o2))) ∧ ∃ n, W' = W.drewN n := by
  by_cases hne : n1 = n2
  · subst hne
    cases n1 with
    | zero =>
      rw [List.eq_nil_of_length_eq_zero hn1, List.eq_nil_of_length_eq_zero hn2]
      exact same0_calls W A1 A2 c1 c2
    | succ n =>
      obtain ⟨b1, s1, rfl, g1⟩ := h1.some (by omega)
      obtain ⟨b2, s2, rfl, g2⟩ := h2.some (by omega)
      exact sameEq_calls W b1 b2 s1 s2 o1 o2 (n + 1) c1 c2 hn1 hn2 g1 g2 hl
  · exact sameNe_calls W A1 A2 o1 o2 n1 n2 c1 c2 hn1 hn2 hne
end Go.Proofs.YtoefnmhmiphilaaGreatDoor.Tp

namespace Go.Proofs.YtoefnmhmiphilaaGreatDoor.Tp
open Go Go.RowKit Go.Maps Go.Proofs.YtoefnmhmiphilaaGreatDoorW.PrintWords
theorem own_Nv {W : World} {base n g c : Nat} {o : List Nd} (h : W.ownsRow base 32 4 (.slice (some ⟨g, 0, none⟩) n c) n (encs o)) (hn : o.length = n) : Nv W (some ⟨g, 0, none⟩) o :=
  .inr ⟨g, 0, rfl, fun i hi => by rw [Nat.zero_add]; exact own_Row h hn i hi⟩
theorem own_Lst {W : World} {base n g c : Nat} {o : List Nd} (h : W.ownsRow base 32 4 (.slice (some ⟨g, 0, none⟩) n c) n (encs o)) (hn : o.length = n) (hf : n ≤ 4294967296) (ht : ∀ x ∈ o, x.f1.size ≤ 1048576) : Lst W (some ⟨g, 0, none⟩) n o := ⟨hn, own_Nv h hn, hf, ht⟩
theorem sort_txt {o : List Nd} {t : Tr} (hf : flat t = o) (h : ∀ x ∈ o, x.f1.size ≤ 1048576) : ∀ x ∈ flat (sortT t), x.f1.size ≤ 1048576 := fun x hx => h x (by rw [← hf]; exact sort_mem t x hx)
theorem sort_root {t : Tr} (hok : okT t = true) {n : Nat} (hn : (flat (sortT t)).length = n + 1) : AtT (flat (sortT t)) n [] (sortT t) := AtT.root (ok_A (sort_facts t hok).1) rfl hn
set_option maxHeartbeats 4000000 in
set_option maxRecDepth 100000 in
theorem rshow_calls (W : World) (A : Option Addr) (n cap : Nat) (o : List Nd) (hL : Lst W A n o) (hbd : ∀ t, apart o = .ok t → (tell (sortT t)).length ≤ 1099511627776) :
    Calls Tryz.prog 19 #[.slice A n cap] W fun e W' => e = .returned (.tuple #[.string (mkB (showOf o).1), .int .i64 (showOf o).2]) ∧ Below W.heap.size W W' := by
  have CC := Lib.hid (rcheck_calls W A n cap o hL)
  have hlen := hL.len
  have hfew := hL.few
  cases ha : apart o with
  | error x =>
    rw [ha, show errOf (.error x) = x from rfl] at CC
    rw [showOf_err ha]
    have hx := apart_code ha
    clear hL hlen ha hfew hbd
    go_enter Tryz.func19, Tryz.ntmps19
    go_wp2_with (first | (go_at_call 16; refine CC.out.mono ?_; rintro e1 W1 ⟨rfl, hb⟩; have B1 := Lib.hid hb; clear hb))
    go_ret2
    exact ⟨rfl, B1.out⟩
  | ok t =>
    rw [ha, show errOf (.ok t) = 0 from rfl] at CC
    obtain ⟨_, h2, h3, _, _⟩ := apart_ok.1 ha
    have hsl : (flat (sortT t)).length = n := by rw [flat_sort_len, h2, hlen]
    have h0 : 0 < n := by rw [← hsl]; exact List.length_pos_iff.2 (flat_ne _)
    cases n with
    | zero => omega
    | succ i =>
      have CS := Lib.hid (fun W1 (hb : Below W.heap.size W W1) => sortedR_calls W1 A (i + 1) cap o (hL.below hb (Nat.le_refl _)) t (ok_A h3) h2)
      have htx := sort_txt h2 hL.txt
      have CT := Lib.hid (fun (W1 : World) (base g c : Nat) (ho : W1.ownsRow base 32 4 (.slice (some ⟨g, 0, none⟩) (i + 1) c) (i + 1) (encs (flat (sortT t)))) =>
        told_all (i + 1) W1 (some ⟨g, 0, none⟩) (i + 1) c (flat (sortT t)) (own_Lst ho hsl hfew htx) i [] (sortT t) (sort_root h3 hsl) (Nat.lt_succ_self i) (hbd t ha))
      have hbt := hbd t ha
      obtain ⟨S, hS⟩ : ∃ S, mkB (tell (sortT t)) = S := ⟨_, rfl⟩
      have hSs : S.size = (tell (sortT t)).length := by rw [← hS]; rfl
      rw [hS] at CT
      have hw : wrap64 (i : Int) = (i : Int) := wrapN rfl (by omega)
      by_cases hbig : 20000 < S.size
      · rw [showOf_big ha (by omega)]
        have d1 : decide (20000 < S.size) = true := by simp; omega
        have d2 : decide ((20000 : Int) < (S.size : Int)) = true := by simp; omega
        clear hL hlen ha hfew hbd h2 h3 hsl h0 htx hbt hS hSs hbig
        go_enter Tryz.func19, Tryz.ntmps19
        go_wp2_with (first | (go_at_call 16; refine CC.out.mono ?_; rintro e1 W1 ⟨rfl, hb⟩; have B1 := Lib.hid hb; clear hb) | (go_at_call 28; refine (CS.out _ B1.out).mono ?_; rintro e1 W2 ⟨g, c, rfl, ho, hb⟩; have B2 := Lib.hid (B1.out.trans (hb.mono B1.out.size)); have O2 := Lib.hid ho; clear ho hb) | (go_at_call 34; (with_reducible refine (CT.out _ _ _ _ O2.out).mono ?_); rintro e1 W3 ⟨rfl, hb⟩; have B3 := Lib.hid (B2.out.trans (hb.mono B2.out.size)); clear hb))
        go_ret2
        exact ⟨rfl, B3.out⟩
      · rw [showOf_ok ha (by omega)]
        have d1 : decide (20000 < S.size) = false := by simp; omega
        have d2 : decide ((20000 : Int) < (S.size : Int)) = false := by simp; omega
        have HS := Lib.hid hS
        clear hL hlen ha hfew hbd h2 h3 hsl h0 htx hbt hS hSs hbig
        go_enter Tryz.func19, Tryz.ntmps19
        go_wp2_with (first | (go_at_call 16; refine CC.out.mono ?_; rintro e1 W1 ⟨rfl, hb⟩; have B1 := Lib.hid hb; clear hb) | (go_at_call 28; refine (CS.out _ B1.out).mono ?_; rintro e1 W2 ⟨g, c, rfl, ho, hb⟩; have B2 := Lib.hid (B1.out.trans (hb.mono B1.out.size)); have O2 := Lib.hid ho; clear ho hb) | (go_at_call 34; (with_reducible refine (CT.out _ _ _ _ O2.out).mono ?_); rintro e1 W3 ⟨rfl, hb⟩; have B3 := Lib.hid (B2.out.trans (hb.mono B2.out.size)); clear hb))
        go_ret2
        exact ⟨by rw [HS.out]; rfl, B3.out⟩
set_option maxHeartbeats 4000000 in
set_option maxRecDepth 100000 in
theorem rsame2_calls (W : World) (A1 A2 : Option Addr) (n1 n2 c1 c2 : Nat) (o1 o2 : List Nd) (hL1 : Lst W A1 n1 o1) (hL2 : Lst W A2 n2 o2) :
    Calls Tryz.prog 23 #[.slice A1 n1 c1, .slice A2 n2 c2] W fun e W' => e = .returned (.bool (sameOf o1 o2)) ∧ Below W.heap.size W W' := by
  have C1 := Lib.hid (rcheck_calls W A1 n1 c1 o1 hL1)
  have C2 := Lib.hid (fun W1 (hb : Below W.heap.size W W1) => rcheck_calls W1 A2 n2 c2 o2 (hL2.below hb (Nat.le_refl _)))
  cases ha : apart o1 with
  | error x =>
    rw [ha, show errOf (.error x) = x from rfl] at C1
    have hx : (x == 0) = false := by have := apart_code ha; rw [bne, Bool.not_eq_true'] at this; exact this
    rw [show sameOf o1 o2 = false by unfold sameOf; rw [ha]]
    clear hL1 hL2 ha
    go_enter Tryz.func23, Tryz.ntmps23
    go_wp2_with (first | (go_at_call 16; refine C1.out.mono ?_; rintro e1 W1 ⟨rfl, hb⟩; have B1 := Lib.hid hb; clear hb))
    go_ret
    exact ⟨rfl, B1.out⟩
  | ok t =>
    rw [ha, show errOf (.ok t) = 0 from rfl] at C1
    cases hc : apart o2 with
    | error x =>
      rw [hc, show errOf (.error x) = x from rfl] at C2
      have hx : (x == 0) = false := by have := apart_code hc; rw [bne, Bool.not_eq_true'] at this; exact this
      rw [show sameOf o1 o2 = false by unfold sameOf; rw [ha, hc]]
      clear hL1 hL2 ha hc
      go_enter Tryz.func23, Tryz.ntmps23
      go_wp2_with (first | (go_at_call 16; first | (refine C1.out.mono ?_; rintro e1 W1 ⟨rfl, hb⟩; have B1 := Lib.hid hb; clear hb C1) | (refine (C2.out _ B1.out).mono ?_; rintro e1 W2 ⟨rfl, hb⟩; have B2 := Lib.hid (B1.out.trans (hb.mono B1.out.size)); clear hb)))
      go_ret
      exact ⟨rfl, B2.out⟩
    | ok u =>
      rw [hc, show errOf (.ok u) = 0 from rfl] at C2
      rw [show sameOf o1 o2 = decide (flat (sortT t) = flat (sortT u)) by unfold sameOf; rw [ha, hc]]
      obtain ⟨_, g2, g3, _, _⟩ := apart_ok.1 ha
      obtain ⟨_, k2, k3, _, _⟩ := apart_ok.1 hc
      have s1 : (flat (sortT t)).length = n1 := by rw [flat_sort_len, g2, hL1.len]
      have s2 : (flat (sortT u)).length = n2 := by rw [flat_sort_len, k2, hL2.len]
      have S1 := Lib.hid (fun W1 (hb : Below W.heap.size W W1) => sortedR_calls W1 A1 n1 c1 o1 (hL1.below hb (Nat.le_refl _)) t (ok_A g3) g2)
      have S2 := Lib.hid (fun W1 (hb : Below W.heap.size W W1) => sortedR_calls W1 A2 n2 c2 o2 (hL2.below hb (Nat.le_refl _)) u (ok_A k3) k2)
      have hfew := hL1.few
      have CE := Lib.hid (fun (W1 : World) (A1 A2 : Option Addr) (c1 c2 : Nat) (h1 : Nv W1 A1 (flat (sortT t))) (h2 : Nv W1 A2 (flat (sortT u))) => rsame_calls W1 A1 A2 _ _ n1 n2 c1 c2 s1 s2 h1 h2 hfew)
      have HS1 := Lib.hid s1
      have HS2 := Lib.hid s2
      clear hL1 hL2 ha hc g2 g3 k2 k3 s1 s2 hfew
      go_enter Tryz.func23, Tryz.ntmps23
      go_wp2_with (first | (go_at_call 16; first | (refine C1.out.mono ?_; rintro e1 W1 ⟨rfl, hb⟩; have B1 := Lib.hid hb; clear hb C1) | (refine (C2.out _ B1.out).mono ?_; rintro e1 W2 ⟨rfl, hb⟩; have B2 := Lib.hid (B1.out.trans (hb.mono B1.out.size)); clear hb)) | (go_at_call 28; first | (refine (S1.out _ B2.out).mono ?_; rintro e1 W3 ⟨g, c, rfl, ho, hb⟩; have B3 := Lib.hid (B2.out.trans (hb.mono B2.out.size)); have O3 := Lib.hid ho; clear ho hb S1) | (refine (S2.out _ B3.out).mono ?_; rintro e1 W4 ⟨g', c', rfl, ho, hb⟩; have B4 := Lib.hid (B3.out.trans (hb.mono B3.out.size)); have O4 := Lib.hid ho; have O3' := Lib.hid (own_bel O3.out hb (Nat.le_refl _)); clear ho hb)) | (go_at_call 14; refine (CE.out _ _ _ _ _ (own_Nv O3'.out HS1.out) (own_Nv O4.out HS2.out)).mono ?_; rintro e1 W5 ⟨rfl, n, rfl⟩))
      go_ret
      exact ⟨rfl, belN B4.out n⟩
end Go.Proofs.YtoefnmhmiphilaaGreatDoor.Tp
