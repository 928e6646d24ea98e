/- Texts of the claim, merged. -/
import Derived.Test.YtoefnmhmiphilaaGreatDoorM6
import Derived.Laws.AppendOwnNone
import Derived.Deep.RegionWith
import Derived.Test.YtoefnmhmiphilaaGreatDoorM1
import Derived.Laws.StructEq
import Derived.Test.YtoefnmhmiphilaaGreatDoorM2
import Derived.Maps.OwnOps
import Derived.Maps.OwnSet
import Derived.Deep.AppendLies
import Derived.Deep.RegionHeld3
set_option linter.unusedVariables false
set_option linter.unusedSimpArgs false
namespace Go.Proofs.YtoefnmhmiphilaaGreatDoor.Tp
open Go Go.RowKit Go.Maps Go.Proofs.YtoefnmhmiphilaaGreatDoorW.PrintWords
theorem own_view {W : World} {base n : Nat} {v : Value} {o : List Nd} (h : W.ownsRow base 32 4 v n (encs o)) (hn : o.length = n) : ∃ A c, v = .slice A n c ∧ Nv W A o ∧ (A = none → c = 0) := by
  rcases h.2 with ⟨h1, h2⟩ | ⟨g, cap, cur, h4, _⟩
  · subst h1
    subst h2
    exact ⟨none, 0, rfl, .inl (List.eq_nil_of_length_eq_zero hn), fun _ => rfl⟩
  · subst h4
    exact ⟨_, cap, rfl, own_Nv h hn, fun e => by cases e⟩
section
variable {ops : Array Oper} {rest : List Oper} {o : Oper} {a : Act} {Q : Exit → Act → World → Prop}
theorem append_list {w0 W : World} (base : Nat) (hgd : o.guard = none) (s x : Operand) (ho : o.op = .call { callee := .builtin .append, args := #[s, x], argTypes := #[22, 22] })
    (v : Value) (n : Nat) (os ns : List Nd) (A : Option Addr) (m c : Nat) (hs : a.eval s = v) (hx : a.eval x = .slice A m c) (hm : ns.length = m) (hr : Nv W A ns) (hc : A = none → c = 0)
    (HO : W.ownsRow base 32 4 v n (encs os)) (HB : Below base w0 W) (hbase : base ≤ W.heap.size) (hl : n + m ≤ 4294967296) (k : Nat) (hk : n + m = k)
    (h : ∀ v1 w1, w1.ownsRow base 32 4 v1 k (encs (os ++ ns)) → Below base w0 w1 → wpList Tryz.prog ops Q rest (a.put o.dst v1) w1) :
    wpList Tryz.prog ops Q (o :: rest) a W := by
  subst hk
  obtain ⟨i0, hi, hzz⟩ := Option.map_eq_some_iff.1 info_node
  simp only [Prod.mk.injEq] at hzz
  obtain ⟨hz0, hz1, hz2⟩ := hzz
  have hone : ∀ u ∈ encs ns, u.oneCell' = true := by
    intro u hu
    unfold encs at hu
    obtain ⟨nd, _, h2⟩ := List.mem_flatMap.1 hu
    simp [cellsN] at h2
    rcases h2 with rfl | rfl | rfl | rfl <;> rfl
  cases A with
  | none =>
    have hns : ns = [] := by rcases hr with h | ⟨_, _, h, _⟩; (· exact h); cases h
    subst hns
    rw [hc rfl] at hx
    have hm0 : m = 0 := hm.symm
    subst hm0
    refine wpList_append_own_none hgd s x 22 ho base 32 i0 4 Tryz.underlying22 hi v n (encs os) hs HO hx (h v W ?_ HB)
    rw [List.append_nil]; exact HO
  | some ad =>
    refine wpList_append_own_at W hgd s x 22 ho base 32 i0 (.agg #[.int .i64 0, .string ⟨#[]⟩, .int .i64 0, .int .i64 0]) 4 40 Tryz.underlying22 hi hz0 hz1 hz2 rfl (by decide) v n (encs os) hs HO ad m c (encs ns) hx (by rw [encs_len, hm])
      (fun j u hj => ?_) hone (by simp only [maxLen]; omega) (by omega) hbase ?_
    · have hj' : j < ns.length * 4 := by
        have := (List.getElem?_eq_some_iff.1 hj).1
        rwa [encs_len] at this
      obtain ⟨b, off, he, hns⟩ := hr.some (by omega)
      cases he
      have := hns j hj'
      rw [hj] at this
      unfold Addr.add
      split
      · rename_i h0; subst h0; exact this
      · exact this
    · intro v1 w1 hown hg _ _
      refine h v1 w1 ?_ (HB.grown hg hbase (own_base HO))
      rw [show encs (os ++ ns) = encs os ++ encs ns by simp [encs]]
      exact hown
end
set_option maxHeartbeats 4000000 in
set_option maxRecDepth 100000 in
theorem own_calls (W : World) (A : Option Addr) (n cap : Nat) (o : List Nd) (hL : Lst W A n o) (hc : A = none → cap = 0) :
    Calls Tryz.prog 11 #[.slice A n cap] W fun e W' => ∃ A' c, e = .returned (.slice A' n c) ∧ W'.ownsRow W.heap.size 32 4 (.slice A' n c) n (encs o) ∧ Below W.heap.size W W' := by
  have HL := Lib.hid hL
  have HC := Lib.hid hc
  have HLEN := Lib.hid hL.len
  have HN := Lib.hid hL.nv
  have hfew := hL.few
  clear hL hc
  go_enter Tryz.func11, Tryz.ntmps11
  go_wp2_with (first | (at_builtin; refine append_list W.heap.size rfl (.tmp 4) (.tmp 5) rfl (.slice none 0 0) 0 [] o A n cap rfl rfl HLEN.out HN.out HC.out (own_nil _ _ _ _) (Below.refl _ _) (Nat.le_refl _) (by omega) n (Nat.zero_add _) ?_; intro v1 w1 ho hbel; obtain ⟨A7, c7, rfl⟩ := own_slice ho; have O8 := Lib.hid ho; have B8 := Lib.hid hbel; clear ho hbel))
  go_ret
  exact ⟨A7, c7, rfl, O8.out, B8.out⟩
def bigOf (o : List Nd) : Bool := decide (200 < o.length) || o.any (fun x => decide (300 < x.f1.size))
set_option maxHeartbeats 4000000 in
set_option maxRecDepth 100000 in
theorem big_calls (W : World) (A : Option Addr) (n cap : Nat) (o : List Nd) (hL : Lst W A n o) :
    Calls Tryz.prog 10 #[.slice A n cap] W fun e W' => e = .returned (.bool (bigOf o)) ∧ W' = W := by
  have hlen := hL.len
  by_cases h2 : 200 < n
  · have d1 : decide (200 < n) = true := by simp; omega
    have d2 : decide ((200 : Int) < (n : Int)) = true := by simp; omega
    rw [show bigOf o = true by unfold bigOf; rw [hlen, d1]; rfl]
    clear hL hlen h2
    go_enter Tryz.func10, Tryz.ntmps10
    go_wp2_with fail
    go_ret
    exact ⟨rfl, rfl⟩
  · have e1 : decide (200 < n) = false := by simp; omega
    have e2 : decide ((200 : Int) < (n : Int)) = false := by simp; omega
    have HB := Lib.hid (show bigOf o = o.any (fun x => decide (300 < x.f1.size)) by unfold bigOf; rw [hlen, e1]; rfl)
    have HL := Lib.hid hL
    have HLEN := Lib.hid hlen
    clear hL hlen
    go_enter Tryz.func10, Tryz.ntmps10
    go_wp2_with fail
    go_loopg [3] n (fun k v3 W' => ∃ q : Nat, v3 = .int .i64 (q : Int) ∧ Hid (k = n - q) ∧ Hid (q ≤ n) ∧ Hid ((o.take q).any (fun x => decide (300 < x.f1.size)) = false) ∧ Hid (W' = W))
    case atStart => exact ⟨0, rfl, Lib.hid rfl, Lib.hid (Nat.zero_le _), Lib.hid rfl, Lib.hid rfl⟩
    case round =>
      obtain ⟨q, rfl, HK, HQ, HT, HW⟩ := hrel
      have hw := HW.out
      subst hw
      by_cases hlt : q < n
      · have f1 : decide ((q : Int) < (n : Int)) = true := by simp; omega
        have l1 : q < o.length := by rw [HLEN.out]; exact hlt
        obtain ⟨b, off, hA, hns⟩ := HL.out.nv.some (by omega)
        subst hA
        obtain ⟨x0, x1, x2, x3⟩ := hns.at_ q l1
        obtain ⟨x, hx⟩ : ∃ x, o[q]'l1 = x := ⟨_, rfl⟩
        rw [hx] at x0 x1 x2 x3
        have HX := Lib.hid hx
        clear hx hns
        by_cases h3 : 300 < x.f1.size
        · have g1 : decide (300 < x.f1.size) = true := by simp; omega
          have g2 : decide ((300 : Int) < (x.f1.size : Int)) = true := by simp; omega
          have HR := Lib.hid (show bigOf o = true by rw [HB.out, List.any_eq_true]; exact ⟨x, by rw [← HX.out]; exact List.getElem_mem _, g1⟩)
          clear h3
          go_wp2_with fail
          go_ret
          exact ⟨by rw [HR.out]; rfl, rfl⟩
        · have g1 : decide (300 < x.f1.size) = false := by simp; omega
          have g2 : decide ((300 : Int) < (x.f1.size : Int)) = false := by simp; omega
          clear h3
          have hw : wrap64 ((q : Int) + 1) = ((q + 1 : Nat) : Int) := by unfold wrap64; omega
          go_wp2_with fail
          go_roundg (n - (q + 1))
          case rel => exact ⟨q + 1, by first | rfl | rw [hw], Lib.hid rfl, Lib.hid hlt, Lib.hid (by rw [List.take_succ_eq_append_getElem l1, List.any_append, HT.out, HX.out]; simp [g1]), Lib.hid rfl⟩
          case measure => have := HK.out; omega
      · have f1 : decide ((q : Int) < (n : Int)) = false := by simp; omega
        have HR := Lib.hid (show bigOf o = false by have := HT.out; rw [List.take_of_length_le (by rw [HLEN.out]; omega)] at this; rw [HB.out, this])
        go_wp2_with fail
        go_ret
        exact ⟨by rw [HR.out]; rfl, rfl⟩
end Go.Proofs.YtoefnmhmiphilaaGreatDoor.Tp

namespace Go.Proofs.YtoefnmhmiphilaaGreatDoor.Tp
open Go Go.RowKit Go.Maps Go.Proofs.YtoefnmhmiphilaaGreatDoorW.PrintWords
theorem Ns.sub {W : World} {b off : Nat} {x m z : List Nd} (h : Ns W b off (x ++ m ++ z)) : Ns W b (off + x.length * 4) m := fun i hi => by
  have h1 := h (x.length * 4 + i) (by rw [List.length_append, List.length_append]; omega)
  rw [← Nat.add_assoc] at h1
  rw [h1]
  have e : encs (x ++ m ++ z) = encs x ++ (encs m ++ encs z) := by simp [encs, List.append_assoc]
  rw [e, List.getElem?_append_right (by rw [encs_len]; omega), encs_len, Nat.add_sub_cancel_left, List.getElem?_append_left (by rw [encs_len]; omega)]
theorem find_at {α : Type} {p : α → Bool} {l : List α} {j : Nat} (hj : j < l.length) (h : (l.take j).find? p = none) (hp : p l[j] = true) : l.find? p = some l[j] := by
  have e : l = l.take j ++ l[j] :: l.drop (j + 1) := by rw [← List.drop_eq_getElem_cons hj, List.take_append_drop]
  have h2 : (l.take j ++ l[j] :: l.drop (j + 1)).find? p = some l[j] := by rw [List.find?_append, h, List.find?_cons_of_pos hp]; rfl
  rw [← e] at h2
  exact h2
theorem find_next {α : Type} {p : α → Bool} {l : List α} {j : Nat} (hj : j < l.length) (h : (l.take j).find? p = none) (hp : p l[j] = false) : (l.take (j + 1)).find? p = none := by
  rw [List.take_succ_eq_append_getElem hj, List.find?_append, h, List.find?_cons_of_neg (by rw [hp]; simp)]; rfl
theorem mem_one {m : Tr} (h : okA m = true) (h6 : m.nd.f0 = 6) : ∃ c, m.kids = [c] := by
  obtain ⟨n, b⟩ := m
  simp only [okA, alone, Bool.and_eq_true, decide_eq_true_eq] at h
  have h3 := h.1.1.1
  have hm : mayK n = true := by have := h.1.1.2.2; simp only [may, Bool.and_eq_true] at this; exact this.1
  simp only [Tr.nd] at h6
  have h1 : n.f3 = 1 := by simp [mayK, h6] at hm; omega
  rw [h1] at h3
  simp only [Tr.kids]
  match b, h3 with
  | [c], _ => exact ⟨c, rfl⟩
  | [], h => simp at h
  | _ :: _ :: _, h => simp at h; omega
theorem bel1 {B : Nat} {W W1 : World} (h : Below B W W1) : Below B W W1.drew := ⟨h.os, h.tape, h.output, h.size, h.block⟩
theorem cell_keep {W W' : World} {p : Addr} {v : Value} (h : W.cell? p = some v) {B : Nat} (hb : Below B W W') (hB : W.heap.size ≤ B) : W'.cell? p = some v := by
  have hlt : p.block < W.heap.size := by
    rcases Nat.lt_or_ge p.block W.heap.size with h' | h'
    · exact h'
    · simp [World.cell?, Array.getElem?_eq_none h'] at h
  rw [← h]; exact hb.cell (Nat.lt_of_lt_of_le hlt hB)
def GRes (o : List Nd) (key : List UInt8) (W : World) (e : Ending) (W' : World) : Prop :=
  Below W.heap.size W W' ∧ match getOf o key with
  | some c => ∃ A' c', e = .returned (.tuple #[.slice A' (flat c).length c', .bool true]) ∧ W'.ownsRow W.heap.size 32 4 (.slice A' (flat c).length c') (flat c).length (encs (flat c))
  | none => e = .returned (.tuple #[.slice none 0 0, .bool false])
theorem GRes.mk_none {o : List Nd} {key : List UInt8} {W W' : World} (h : getOf o key = none) (hb : Below W.heap.size W W') : GRes o key W (.returned (.tuple #[.slice none 0 0, .bool false])) W' := by unfold GRes; rw [h]; exact ⟨hb, rfl⟩
theorem GRes.mk_some {o : List Nd} {key : List UInt8} {W W' : World} {c : Tr} {A' : Option Addr} {m c' : Nat} (h : getOf o key = some c) (hm : (flat c).length = m) (ho : W'.ownsRow W.heap.size 32 4 (.slice A' m c') m (encs (flat c))) (hb : Below W.heap.size W W') : GRes o key W (.returned (.tuple #[.slice A' m c', .bool true])) W' := by
  subst hm; unfold GRes; rw [h]; exact ⟨hb, A', c', rfl, ho⟩
set_option maxHeartbeats 16000000 in
set_option maxRecDepth 100000 in
theorem rget_calls (W : World) (A : Option Addr) (n cap : Nat) (o : List Nd) (hL : Lst W A n o) (hcap : n ≤ cap) (hc63 : cap ≤ 9223372036854775807) (key : ByteArray) :
    Calls Tryz.prog 21 #[.slice A n cap, .string key] W (GRes o key.data.toList W) := by
  have CC := Lib.hid (rcheck_calls W A n cap o hL)
  have hlen := hL.len
  have hfew := hL.few
  cases ha : apart o with
  | error x =>
    rw [ha, show errOf (.error x) = x from rfl] at CC
    have HN := Lib.hid (show getOf o key.data.toList = none by unfold getOf; rw [ha])
    have hx := apart_code ha
    clear hL hlen ha hfew hcap
    go_enter Tryz.func21, Tryz.ntmps21
    go_wp2_with (first | (go_at_call 16; refine CC.out.mono ?_; rintro e1 W1 ⟨rfl, hb⟩; have B1 := Lib.hid hb; clear hb))
    go_ret2
    exact GRes.mk_none HN.out B1.out
  | ok t =>
    rw [ha, show errOf (.ok t) = 0 from rfl] at CC
    obtain ⟨_, h2, h3, _, _⟩ := apart_ok.1 ha
    have hpos : 0 < n := by rw [← hlen, ← h2]; exact List.length_pos_iff.2 (flat_ne _)
    cases n with
    | zero => omega
    | succ i =>
      have hT := AtT.root (ok_A h3) h2 hlen
      obtain ⟨nn, kids⟩ := t
      have hi1 : i < i + 1 := Nat.lt_succ_self i
      have hio := hT.lt
      have hnode : o[i]'hio = nn := hT.node
      have hi0 : (i : Int) < ((i + 1 : Nat) : Int) := by omega
      obtain ⟨bx, hbx⟩ : ∃ bx, W.heap.size = bx := ⟨_, rfl⟩
      have hw0 : wrap64 (i : Int) = (i : Int) := wrapN rfl (by omega)
      by_cases h7 : nn.f0 = 7
      · have q7 : (nn.f0 != 7) = false := by rw [h7]; rfl
        clear hw0
        have HL := Lib.hid hL
        have HX := Lib.hid hnode
        have hle : i ≤ 4611686018427387904 := by omega
        have X0 := Lib.hid (fun (W1 : World) (hb : Below W.heap.size W W1) => (hL.below hb (Nat.le_refl _)).nv.some (show 0 < o.length by omega))
        have CK := Lib.hid (fun (W1 : World) (hb : Below W.heap.size W W1) => kids_calls W1 A (i + 1) cap o (hL.below hb (Nat.le_refl _)) i [] (.mk nn kids) hT)
        simp only [Tr.kids, List.length_nil] at CK
        rw [← pts_pos] at CK
        obtain ⟨m, hm⟩ : ∃ m, kids.length = m := ⟨_, rfl⟩
        rw [hm] at CK
        have hmn : m ≤ i + 1 := by
          have h1 := hT.len
          rw [flat, List.length_append, List.length_singleton] at h1
          have h2 : ∀ l : List Tr, l.length ≤ (l.map (fun t => (flat t).length)).sum := by
            intro l
            induction l with
            | nil => simp
            | cons u l ih => have := List.length_pos_iff.2 (flat_ne u); simp only [List.length_cons, List.map_cons, List.sum_cons]; omega
          have h3 := h2 kids
          rw [← flats_len] at h3
          rw [List.length_nil] at h1
          omega
        obtain ⟨P0, hP0⟩ : ∃ P0, ptsOf 0 kids = P0 := ⟨_, rfl⟩
        have HPL := Lib.hid (show P0.length = m by rw [← hP0, pts_len, hm])
        have HPT := Lib.hid (show ∀ p ∈ P0, ∃ pre', AtT o p.1 pre' p.2 ∧ p.1 < i by rw [← hP0]; exact pts_at hT)
        have HPS := Lib.hid (show P0.map (fun p : PT => p.2) = kids by rw [← hP0]; exact pts_snd _ _)
        rw [hP0] at CK
        have HK6 := Lib.hid (show ∀ u ∈ kids, u.nd.f0 = 6 by
          intro u hu
          simp only [okT, fits, kinds, Bool.and_eq_true] at h3
          have := List.all_eq_true.1 h3.1.2.1 u hu
          rw [h7] at this
          simpa using this)
        obtain ⟨K, hK⟩ : ∃ K, key.data.toList = K := ⟨_, rfl⟩
        have HG0 := Lib.hid (show getOf o K = (kids.find? (fun m => m.key == K)).bind (fun m => m.kids.head?) by unfold getOf; rw [ha]; show getT _ _ = _; unfold getT; exact if_pos h7)
        have HKK := Lib.hid hK
        have HM := Lib.hid hm
        have HFEW := Lib.hid hfew
        rw [hK]
        clear hL hlen hT hnode ha h2 h3 h7 hm hP0 hK
        go_enter Tryz.func21, Tryz.ntmps21
        go_wp2_with (first | (go_at_call 16; refine CC.out.mono ?_; rintro e1 W1 ⟨rfl, hb⟩; have B1 := Lib.hid hb; clear hb; obtain ⟨b, off, hA, hns⟩ := X0.out W1 B1.out; subst hA; have y0 := (hns.at_ i hio).1; rw [HX.out] at y0; clear hns) | (go_at_call 35; (with_reducible refine (CK.out _ B1.out).mono ?_); rintro e1 W2 ⟨A1, c1, rfl, ho, hb⟩; have O1 := Lib.hid ho; have B2 := Lib.hid (B1.out.trans (hb.mono B1.out.size)); clear ho hb y0))
        go_loopg [7] m (fun k v7 W' => ∃ j : Nat, v7 = .int .i64 (j : Int) ∧ Hid (k = m - j) ∧ Hid (j ≤ m) ∧ Hid ((kids.take j).find? (fun m => m.key == K) = none) ∧ Hid (W' = W2))
        case atStart => exact ⟨0, rfl, Lib.hid rfl, Lib.hid (Nat.zero_le _), Lib.hid rfl, Lib.hid rfl⟩
        case round =>
          obtain ⟨j, rfl, HG, HJ, HF, HW⟩ := hrel
          have hw := HW.out
          subst hw
          by_cases hj : j < m
          · have d2 : decide ((j : Int) < (m : Int)) = true := by simp; omega
            have hjm2 : (j : Int) < (m : Int) := by omega
            have hjl : j < P0.length := by rw [HPL.out]; exact hj
            have hjk : j < kids.length := by rw [HM.out]; exact hj
            have hjp : j < (posOf P0).length := by rw [posOf_len]; exact hjl
            obtain ⟨bk, hbk, rj⟩ := own_read O1.out j hjp
            subst hbk
            obtain ⟨x, hx⟩ : ∃ x, P0[j]'hjl = x := ⟨_, rfl⟩
            have vx : (posOf P0)[j]'hjp = (x.1 : Int) := by rw [posOf_get P0 j hjl, hx]
            rw [vx] at rj
            have hxk : kids[j]'hjk = x.2 := by
              have h1 : (P0.map (fun p : PT => p.2))[j]? = some x.2 := by rw [List.getElem?_map, List.getElem?_eq_getElem hjl, hx]; rfl
              rw [HPS.out, List.getElem?_eq_getElem hjk] at h1
              exact Option.some.inj h1
            obtain ⟨pre', hAx, hxi⟩ := HPT.out x (by rw [← hx]; exact List.getElem_mem _)
            have hxo := hAx.lt
            have hxn : o[x.1]'hxo = x.2.nd := hAx.node
            have hxin : (x.1 : Int) < ((i + 1 : Nat) : Int) := by omega
            have hLw := HL.out.below B2.out (Nat.le_refl _)
            obtain ⟨b', off', hbe, hns⟩ := hLw.nv.some (by omega)
            cases hbe
            obtain ⟨z0, z1, z2, z3⟩ := hns.at_ x.1 hxo
            rw [hxn] at z0 z1 z2 z3
            have HNS := Lib.hid hns
            have HAX := Lib.hid hAx
            have HXK := Lib.hid hxk
            by_cases hke : x.2.key = K
            · have te : (x.2.nd.f1.toList == key.toList) = true := by rw [bytes_eqD, HKK.out]; exact decide_eq_true hke
              obtain ⟨c, hcc⟩ := mem_one hAx.ok (HK6.out x.2 (by rw [← hxk]; exact List.getElem_mem _))
              have HG := Lib.hid (show getOf o K = some c by
                rw [HG0.out, find_at hjk HF.out (by rw [hxk]; simp [hke]), hxk]
                show x.2.kids.head? = _
                rw [hcc]; rfl)
              have hfl : flat x.2 = flat c ++ [x.2.nd] := by
                obtain ⟨⟨xn, xb⟩, hxe⟩ : ∃ y, x.2 = y := ⟨_, rfl⟩
                rw [hxe] at hcc ⊢
                simp only [Tr.kids] at hcc
                subst hcc
                simp [flat, flats, Tr.nd]
              have hal := hAx.len
              obtain ⟨p, hp⟩ : ∃ p, pre'.length = p := ⟨_, rfl⟩
              obtain ⟨q, hq⟩ : ∃ q, (flat c).length = q := ⟨_, rfl⟩
              rw [hfl, List.length_append, List.length_singleton, hp, hq] at hal
              obtain ⟨r, hr⟩ : ∃ r, x.1 = r := ⟨_, rfl⟩
              rw [hr] at hal rj z0 z1 z2 z3 hxin hxi
              have hrq : r = p + q := by omega
              have HSUB := Lib.hid (fun (W3 : World) (h : Ns W3 b off o) => by
                have e1 : o = pre' ++ flat c ++ (x.2.nd :: o.drop (r + 1)) := by
                  have h1 := List.take_append_drop (x.1 + 1) o
                  rw [hAx.eq, hfl, hr] at h1
                  exact h1.symm.trans (by simp [List.append_assoc])
                rw [e1] at h
                have h2 := h.sub
                rw [hp] at h2
                exact h2)
              have CB := Lib.hid (fun (W3 : World) (hb : Below W.heap.size W W3) => begin_all (r + 1) W3 _ (i + 1) cap o (HL.out.below hb (Nat.le_refl _)) r (by omega) (Nat.lt_succ_self _))
              have hbg := hAx.bg (f := r + 1) (by rw [hr]; exact Nat.lt_succ_self r)
              rw [hr, hp] at hbg
              rw [hbg] at CB
              have CO := Lib.hid (fun (W3 : World) (hb : Below W.heap.size W W3) (cap' : Nat) => own_calls W3 (some ⟨b, off + p * 4, none⟩) q cap' (flat c) ⟨hq, .inr ⟨_, _, rfl, HSUB.out W3 (by
                  have := HL.out.below hb (Nat.le_refl _)
                  obtain ⟨b2, o2, e2, h2⟩ := this.nv.some (show 0 < o.length by omega)
                  cases e2; exact h2)⟩, by omega, fun y hy => HL.out.txt y (by
                    have e1 := List.mem_append_left [x.2.nd] hy
                    rw [← hfl] at e1
                    have e2 := List.mem_append_right pre' e1
                    rw [← hAx.eq] at e2
                    exact List.mem_of_mem_take e2)⟩ (fun e => by cases e))
              have HQ := Lib.hid hq
              have hpr : p ≤ r := by omega
              have hrc : r ≤ cap := by omega
              have hpc : (p : Int) ≤ (r : Int) := by omega
              have hrc2 : (r : Int) ≤ (cap : Int) := by omega
              have hs2 : r - p = q := by omega
              have hcp : ¬ cap = p := by omega
              clear hrq hx vx hxk hxn hns hke hLw hcc hfl hal hp hq hbg hAx
              go_wp2_with fail
              go_region_with (first | (go_at_call 29; (with_reducible refine (CB.out _ (bel1 B2.out)).mono ?_); rintro e1 W3 ⟨rfl, hb⟩; have B3 := Lib.hid ((bel1 B2.out).trans (hb.mono (bel1 B2.out).size)); have rj3 := cell_keep (W := wr.drew) rj hb (Nat.le_refl _); clear hb) | (go_at_call 11; (with_reducible refine (CO.out _ B3.out _).mono ?_); rintro e1 W4 ⟨A5, c5, rfl, ho, hb⟩; have O5 := Lib.hid (own_lower ho B3.out.size); have B5 := Lib.hid (B3.out.trans (hb.mono B3.out.size)); clear ho hb))
              all_goals go_wp2_with fail
              all_goals go_ret2
              all_goals exact GRes.mk_some HG.out HQ.out O5.out B5.out
            · have te : (x.2.nd.f1.toList == key.toList) = false := by rw [bytes_eqD, HKK.out]; exact decide_eq_false hke
              have HF2 := Lib.hid (find_next hjk HF.out (by rw [hxk]; simp [hke]))
              clear hx vx hxk hAx hxn hns hke hLw
              go_wp2_with fail
              go_roundg (m - (j + 1))
              case rel => exact ⟨j + 1, rfl, Lib.hid rfl, Lib.hid hj, HF2, Lib.hid rfl⟩
              case measure => have := HG.out; omega
          · have d2 : decide ((j : Int) < (m : Int)) = false := by simp; omega
            have HN := Lib.hid (show getOf o K = none by have := HF.out; rw [List.take_of_length_le (by rw [HM.out]; omega)] at this; rw [HG0.out, this]; rfl)
            go_wp2_with fail
            go_ret2
            exact GRes.mk_none HN.out B2.out
      · have HN := Lib.hid (show getOf o key.data.toList = none by unfold getOf; rw [ha]; show getT _ _ = none; unfold getT; exact if_neg h7)
        have HL := Lib.hid hL
        have HX := Lib.hid hnode
        have q7 : (nn.f0 != 7) = true := by rw [bne_iff_ne]; exact h7
        have hle : i ≤ 4611686018427387904 := by omega
        have X0 := Lib.hid (fun (W1 : World) (hb : Below W.heap.size W W1) => by
          have h1 := (hL.below hb (Nat.le_refl _)).nv.some (show 0 < o.length by omega)
          exact h1)
        clear hL hlen hT hnode hfew ha h2 h3 h7
        have H0 := Lib.hid hio
        go_enter Tryz.func21, Tryz.ntmps21
        go_wp2_with (first | (go_at_call 16; refine CC.out.mono ?_; rintro e1 W1 ⟨rfl, hb⟩; have B1 := Lib.hid hb; clear hb; obtain ⟨b, off, hA, hns⟩ := X0.out W1 B1.out; subst hA; have y0 := (hns.at_ i H0.out).1; rw [HX.out] at y0; clear hns))
        go_ret2
        exact GRes.mk_none HN.out B1.out
end Go.Proofs.YtoefnmhmiphilaaGreatDoor.Tp

namespace Go.Proofs.YtoefnmhmiphilaaGreatDoor.Tp
open Go Go.RowKit Go.Maps Go.Proofs.YtoefnmhmiphilaaGreatDoorW.PrintWords
set_option maxHeartbeats 8000000 in
set_option maxRecDepth 100000 in
theorem ptexted_calls (W : World) (D : ByteArray) (hz : D.size ≤ 4611686018427387904) :
    Calls Tryz.prog 68 #[.string D] W fun e W' => e = .returned (.bool (texted D)) ∧ W' = W := by
  have HZ := Lib.hid hz
  have HL := Lib.hid (show D.data.toList.length = D.size by simp)
  clear hz
  go_enter Tryz.func68, Tryz.ntmps68
  go_wp2_with fail
  go_loopg [7] D.size (fun k v7 W' => ∃ q : Nat, v7 = .int .i64 (q : Int) ∧ Hid (k = D.size - q) ∧ Hid (q ≤ D.size) ∧ Hid ((D.data.toList.take q).all okc = true) ∧ Hid (W' = W))
  case atStart => exact ⟨0, rfl, Lib.hid rfl, Lib.hid (Nat.zero_le _), Lib.hid (by simp), Lib.hid rfl⟩
  case round =>
    obtain ⟨q, rfl, HK, HQ, HD, HW⟩ := hrel
    by_cases hlt : q < D.size
    · have d1 : decide ((q : Int) < (D.size : Int)) = true := by simp; omega
      obtain ⟨c, hc⟩ : ∃ c, D[q]'hlt = c := ⟨_, rfl⟩
      have HDR := Lib.hid (show D.data.toList[q]'(by rw [HL.out]; exact hlt) = c from hc)
      have hbd := HZ.out
      cases hk : okc c with
      | true =>
        have HOK := Lib.hid hk
        have hcs := okc_true hk
        clear hk
        rcases hcs with g1 | ⟨g1, g2, g3⟩
        all_goals
          go_wp2_with fail
          go_roundg (D.size - (q + 1))
          case rel => exact ⟨q + 1, rfl, Lib.hid rfl, Lib.hid hlt, Lib.hid (by
            rw [List.take_succ_eq_append_getElem (by rw [HL.out]; exact hlt), List.all_append, HD.out, HDR.out]
            simp [HOK.out]), HW⟩
          case measure => have := HK.out; omega
      | false =>
        have HT := Lib.hid (show texted D = false by
          unfold texted
          rw [← Bool.not_eq_true, List.all_eq_true]
          intro h
          have := h c (by rw [← HDR.out]; exact List.getElem_mem _)
          rw [this] at hk; cases hk)
        obtain ⟨g1, hcs⟩ := okc_false hk
        clear hk
        rcases hcs with g2 | ⟨g2, g3⟩
        all_goals
          go_wp2_with fail
          go_ret
          exact ⟨by rw [HT.out]; rfl, HW.out⟩
    · have d1 : decide ((q : Int) < (D.size : Int)) = false := by simp; omega
      have HT := Lib.hid (show texted D = true by
        have := HD.out
        rwa [List.take_of_length_le (by rw [HL.out]; omega)] at this)
      go_wp2_with fail
      go_ret
      exact ⟨by rw [HT.out]; rfl, HW.out⟩
end Go.Proofs.YtoefnmhmiphilaaGreatDoor.Tp

-- PRINTED BY print.sh 35421559b90ae4d0a3588c463048766b98c2df88dd9212a6774a882060cdf62d: not written by this session
namespace Go.Proofs.YtoefnmhmiphilaaGreatDoorW.PrintWords
open Go.RowKit
section
variable {P : Program} {d : Nat} {xs ys : Array Value} {f : Field} {fs : List Field} {a b : Value} {r s : Bool} {w : World}
theorem eqf_last (hn : (f.name == "_") = false) (ha : (part f.type xs f.offset).run P w = .ok a w) (hb : (part f.type ys f.offset).run P w = .ok b w) (he : (Op.equalIn d f.type a b).run P w = .ok r w) : (Op.eqFields d xs ys [f]).run P w = .ok r w := by
  have hn' : f.name ≠ "_" := by simpa using hn
  simp only [Op.eqFields, if_pos hn', Sem.run_bind, ha, hb, he, Result.andThen_ok]
  cases r <;> simp
theorem eqf_cons (hn : (f.name == "_") = false) (ha : (part f.type xs f.offset).run P w = .ok a w) (hb : (part f.type ys f.offset).run P w = .ok b w) (he : (Op.equalIn d f.type a b).run P w = .ok r w) (hr : (Op.eqFields d xs ys fs).run P w = .ok s w) : (Op.eqFields d xs ys (f :: fs)).run P w = .ok (r && s) w := by
  have hn' : f.name ≠ "_" := by simpa using hn
  rw [Op.eqFields]
  simp only [if_pos hn', Sem.run_bind, ha, hb, he, Result.andThen_ok]
  cases r
  · simp
  · simpa using hr
theorem eqf_end (hn : (f.name == "_") = false) (ha : (part f.type xs f.offset).run P w = .ok a w) (hb : (part f.type ys f.offset).run P w = .ok b w) (he : (Op.equalIn d f.type a b).run P w = .ok r w) (hr : (Op.eqFields d xs ys fs).run P w = .ok true w) : (Op.eqFields d xs ys (f :: fs)).run P w = .ok r w := by
  have h := eqf_cons hn ha hb he hr
  rwa [Bool.and_true] at h
theorem eqf_skip (hn : (f.name == "_") = true) (hr : (Op.eqFields d xs ys fs).run P w = .ok s w) : (Op.eqFields d xs ys (f :: fs)).run P w = .ok s w := by
  have hn' : ¬ (f.name ≠ "_") := by simpa using hn
  rw [Op.eqFields, if_neg hn']
  exact hr
theorem eqf_nil : (Op.eqFields d xs ys []).run P w = .ok true w := by simp [Op.eqFields]
theorem eqA_of {t : TypeId} {fs : Array Field} (hu : P.underlying t = some (.struct fs)) (hp : P.stoodInHeld t = false) (h : (Op.eqFields d xs ys fs.toList).run P w = .ok r w) : (Op.equalIn (d + 1) t (.agg xs) (.agg ys)).run P w = .ok r w := by
  have hf : P.fieldsOf t = fs := by simp [Program.fieldsOf, hu]
  rw [run_equalIn_struct (P := P) w d t xs ys (by rw [hf]; exact hu) hp, hf]
  exact h
end
end Go.Proofs.YtoefnmhmiphilaaGreatDoorW.PrintWords

-- PRINTED BY print.sh 35421559b90ae4d0a3588c463048766b98c2df88dd9212a6774a882060cdf62d: not written by this session
namespace Go.Proofs.YtoefnmhmiphilaaGreatDoorW.PrintWords
open Go.RowKit
namespace Kd
section
variable {α : Type} {d : Kd α} {e base g o n cap : Nat} {ok okp : Nat → Prop} {w W : World} {v : Value} {xs : List α}
theorem Q_form (h : d.Q e w base ok v xs) (hp : 0 < xs.length) : ∃ g o cap, v = .slice (some ⟨g, o, none⟩) xs.length cap ∧ base ≤ g ∧ g < w.heap.size ∧ ∃ cells, w.heap[g]? = some (.cells cells e (0, 0)) := by
  obtain ⟨h0, inner, hq, hr⟩ := h
  rcases hq.2 with ⟨h1, _⟩ | ⟨g, off, cap, cur, rfl, hb, hh, r⟩
  · omega
  · exact ⟨g, off * d.sz, cap, rfl, hb, blk_lt hh, cur, hh⟩
theorem Q_elem (h : d.Q e W base ok (.slice (some ⟨g, o, none⟩) n cap) xs) (z : α) (i : Int) (h0 : 0 ≤ i) (h1 : i < n) :
    ∃ c, c.length = d.sz ∧ d.M W base (fun k => ok k ∧ k ≠ g) (xs.getD i.toNat z) c ∧ (∀ j u, c[j]? = some u → W.cell? ⟨g, o + i.toNat * d.sz + j, none⟩ = some u) ∧ ∀ j, W.frozen? ⟨g, o + i.toNat * d.sz + j, none⟩ = false := by
  obtain ⟨hn, hnc, hC⟩ := Q_reads' h
  obtain ⟨_, inner, ho, hr⟩ := h
  have hil : i.toNat < xs.length := by omega
  have hseg : i.toNat * d.sz + d.sz ≤ inner.length := by rw [hr.1, ← Nat.succ_mul]; exact Nat.mul_le_mul_right _ hil
  have hM := hr.2 i.toNat _ (List.getElem?_eq_getElem hil)
  refine ⟨(inner.drop (i.toNat * d.sz)).take d.sz, by rw [List.length_take, List.length_drop]; omega, ?_, fun j u hu => ?_, fun j => ?_⟩
  · rw [List.getD_eq_getElem?_getD, List.getElem?_eq_getElem hil]
    exact d.M_mono (fun k hk => ⟨hk.1, fun he => hk.2 (by rw [he]; simp [Value.ownBlock])⟩) hM
  · rw [List.getElem?_take] at hu
    split at hu
    · rw [List.getElem?_drop] at hu
      subst hn
      obtain ⟨ad, he, hc⟩ := q_cells ho (by omega)
      injection he with he
      subst he
      have := hc _ u hu
      rwa [add_at, ← Nat.add_assoc] at this
    · cases hu
  · obtain ⟨_, cells, hc⟩ := q_typed ho g (by simp [Value.ownBlock])
    exact blk_frozen hc _
theorem Q_seg (h : d.Q e W base ok (.slice (some ⟨g, o, none⟩) n cap) xs) (i : Int) (h0 : 0 ≤ i) (h1 : i < n) {c seg : List Value} {j : Nat} (hcl : c.length = d.sz) (hcc : ∀ j u, c[j]? = some u → W.cell? ⟨g, o + i.toNat * d.sz + j, none⟩ = some u)
    (hj : j + seg.length ≤ d.sz) {x' : α} (hM : d.M W base okp x' (c.take j ++ seg ++ c.drop (j + seg.length))) (hokp : ∀ k, okp k → ok k ∧ k ≠ g) :
    d.Q e (W.setCells g (o + i.toNat * d.sz + j) seg) base ok (.slice (some ⟨g, o, none⟩) n cap) (xs.set i.toNat x') ∧ W.grownBy (W.setCells g (o + i.toNat * d.sz + j) seg) (some g) := by
  obtain ⟨hn, hnc, _⟩ := Q_reads' h
  obtain ⟨hok, inner, ho, hr⟩ := h
  have hil : i.toNat < xs.length := by omega
  have hseg : i.toNat * d.sz + d.sz ≤ inner.length := by rw [hr.1, ← Nat.succ_mul]; exact Nat.mul_le_mul_right _ hil
  have hin : inner.length = n * d.sz := by rw [hr.1, hn]
  obtain ⟨ho1, ho2⟩ := ho
  rcases ho2 with ⟨hz, _⟩ | ⟨g', off, cap', cur, hv, hb, hh, hnc', hcm, hcs, ht⟩
  · omega
  injection hv with ha _ hc
  injection ha with ha
  injection ha with hg hoff
  subst hg; subst hc; subst hoff
  have hcap : n * d.sz ≤ cap * d.sz := Nat.mul_le_mul_right _ hnc
  have hcs' : cur.size = off * d.sz + cap * d.sz := by rw [hcs, Nat.add_mul]
  have hfit : off * d.sz + i.toNat * d.sz + j + seg.length ≤ cur.size := by omega
  obtain ⟨cur', h3, h4, h5⟩ := setCells_row seg (off * d.sz + i.toNat * d.sz + j) W cur hh hfit
  obtain ⟨s1, s2, s3, s4⟩ := setCells_same g seg (off * d.sz + i.toNat * d.sz + j) W
  have hfar : ∀ k, k ≠ g → (W.setCells g (off * d.sz + i.toNat * d.sz + j) seg).heap[k]? = W.heap[k]? := fun k hk => setCells_far seg _ k hk
  rw [← hn] at ht
  -- the row's cells are the block's from off on
  have hat : ∀ q, q < n * d.sz → cur.toList[off * d.sz + q]? = inner[q]? := by
    intro q hq
    rw [← ht, List.getElem?_take, if_pos hq, List.getElem?_drop]
  have hcin : ∀ q, q < d.sz → c[q]? = inner[i.toNat * d.sz + q]? := by
    intro q hq
    have hq' : q < c.length := by omega
    have h6 := hcc q _ (List.getElem?_eq_getElem hq')
    rw [cell_of_row W g _ cur e (0, 0) hh] at h6
    rw [List.getElem?_eq_getElem hq', ← h6, ← hat _ (by omega), Array.getElem?_toList, Nat.add_assoc]
  refine ⟨⟨hok, inner.take (i.toNat * d.sz + j) ++ seg ++ inner.drop (i.toNat * d.sz + j + seg.length), ⟨?_, .inr ⟨g, off, cap, cur', by rw [List.length_set, hn], hb, h3, by rw [List.length_set, ← hn]; exact hnc, hcm, by rw [h4, hcs], ?_⟩⟩, ?_⟩,
    ⟨s1, s2, s3, by rw [s4]; exact Nat.le_refl _, fun k _ hk => hfar k (fun he => hk (by rw [he]))⟩⟩
  · rw [List.length_set]
    simp only [List.length_append, List.length_take, List.length_drop]
    rw [hr.1] at hseg ⊢
    omega
  · rw [List.length_set, ← hn]
    apply List.ext_getElem?
    intro q
    rw [List.getElem?_take, List.getElem?_drop, h5]
    rw [seg_get cur.toList seg (off * d.sz + i.toNat * d.sz + j) (by rw [Array.length_toList]; omega) (off * d.sz + q), seg_get inner seg (i.toNat * d.sz + j) (by omega) q]
    by_cases hq : q < n * d.sz
    · rw [if_pos hq]
      by_cases hq1 : q < i.toNat * d.sz + j
      · rw [if_pos (by omega), if_pos hq1, hat q hq]
      · rw [if_neg (by omega), if_neg hq1]
        by_cases hq2 : q < i.toNat * d.sz + j + seg.length
        · rw [if_pos (by omega), if_pos hq2]
          congr 1
          omega
        · rw [if_neg (by omega), if_neg hq2, hat q hq]
    · rw [if_neg hq, if_neg (by omega), if_neg (by omega), List.getElem?_eq_none (by omega)]
  · refine ⟨?_, fun m p hm => ?_⟩
    · rw [List.length_set]
      simp only [List.length_append, List.length_take, List.length_drop]
      rw [hr.1] at hseg ⊢
      omega
    · have hml : m < xs.length := by
        have := (List.getElem?_eq_some_iff.1 hm).1
        rwa [List.length_set] at this
      have hmfit : m * d.sz + d.sz ≤ inner.length := by rw [hr.1, ← Nat.succ_mul]; exact Nat.mul_le_mul_right _ hml
      have hgo : some g = (Value.slice (some ⟨g, off * d.sz, none⟩) n cap).ownBlock := by simp [Value.ownBlock]
      by_cases hmi : m = i.toNat
      · subst hmi
        rw [List.getElem?_set_self (by omega)] at hm
        injection hm with hm
        subst hm
        have hcells : ((inner.take (i.toNat * d.sz + j) ++ seg ++ inner.drop (i.toNat * d.sz + j + seg.length)).drop (i.toNat * d.sz)).take d.sz = c.take j ++ seg ++ c.drop (j + seg.length) := by
          apply List.ext_getElem?
          intro q
          rw [List.getElem?_take, List.getElem?_drop, seg_get inner seg _ (by omega), seg_get c seg j (by omega) q]
          by_cases hq : q < d.sz
          · rw [if_pos hq, hcin q hq]
            by_cases hq1 : q < j
            · rw [if_pos (by omega), if_pos hq1]
            · rw [if_neg (by omega), if_neg hq1]
              by_cases hq2 : q < j + seg.length
              · rw [if_pos (by omega), if_pos hq2]
                congr 1
                omega
              · rw [if_neg (by omega), if_neg hq2]
          · rw [if_neg hq, if_neg (by omega), if_neg (by omega), List.getElem?_eq_none (by omega)]
        rw [hcells]
        refine d.M_mono (fun k hk => ?_) (d.M_move (w1 := W.setCells g (off * d.sz + i.toNat * d.sz + j) seg) (fun k hk => hfar k (hokp k hk).2) hM)
        exact ⟨(hokp k hk).1, fun he => (hokp k hk).2 (by rw [← hgo] at he; injection he)⟩
      · rw [List.getElem?_set_ne (by omega)] at hm
        have hold := hr.2 m p hm
        have hcells : ((inner.take (i.toNat * d.sz + j) ++ seg ++ inner.drop (i.toNat * d.sz + j + seg.length)).drop (m * d.sz)).take d.sz = (inner.drop (m * d.sz)).take d.sz := by
          apply List.ext_getElem?
          intro q
          rw [List.getElem?_take, List.getElem?_take, List.getElem?_drop, List.getElem?_drop, seg_get inner seg _ (by omega)]
          by_cases hq : q < d.sz
          · rw [if_pos hq, if_pos hq]
            rcases Nat.lt_or_gt_of_ne hmi with hlt | hgt
            · have : m * d.sz + d.sz ≤ i.toNat * d.sz := by rw [← Nat.succ_mul]; exact Nat.mul_le_mul_right _ hlt
              rw [if_pos (by omega)]
            · have : i.toNat * d.sz + d.sz ≤ m * d.sz := by rw [← Nat.succ_mul]; exact Nat.mul_le_mul_right _ hgt
              rw [if_neg (by omega), if_neg (by omega)]
          · rw [if_neg hq, if_neg hq]
        rw [hcells]
        refine d.M_move (fun k hk => hfar k (fun he => hk.2 (by rw [he]; exact hgo))) hold
end
section
variable {α : Type} {enc : α → Value} {h1 : ∀ x, (enc x).oneCell' = true} {e base g o n cap : Nat} {ok : Nat → Prop} {W : World} {xs : List α}
theorem Q_cell (d : α) (h : (scalar enc h1).Q e W base ok (.slice (some ⟨g, o, none⟩) n cap) xs) (i : Int) (h0 : 0 ≤ i) (hi : i < n) : W.cell? ⟨g, o + i.toNat, none⟩ = some (enc (rdOf d xs i)) ∧ W.frozen? ⟨g, o + i.toNat, none⟩ = false := by
  obtain ⟨c, _, hM, hcc, hf⟩ := Q_elem h d i h0 hi
  have hM' : c = [enc (xs.getD i.toNat d)] := hM
  subst hM'
  have h2 := hcc 0 _ rfl
  have h3 := hf 0
  rw [show (scalar enc h1).sz = 1 from rfl, Nat.mul_one, Nat.add_zero] at h2 h3
  exact ⟨h2, h3⟩
theorem Q_putg (h : (scalar enc h1).Q e W base ok (.slice (some ⟨g, o, none⟩) n cap) xs) (i : Int) (h0 : 0 ≤ i) (hi : i < n) (x : α) : (scalar enc h1).Q e (W.setCell ⟨g, o + i.toNat, none⟩ (enc x)) base ok (.slice (some ⟨g, o, none⟩) n cap) (xs.set i.toNat x) ∧ W.grownBy (W.setCell ⟨g, o + i.toNat, none⟩ (enc x)) (some g) := by
  have hp : 0 < xs.length := by have := (Q_reads' h).1; omega
  obtain ⟨c, hcl, _, hcc, _⟩ := Q_elem h (xs[0]'hp) i h0 hi
  have h2 := Q_seg h i h0 hi (c := c) (seg := [enc x]) (j := 0) (okp := fun _ => False) (x' := x) hcl hcc (Nat.le_refl 1) (by
    have hl : c.length = 1 := hcl
    show c.take 0 ++ [enc x] ++ c.drop (0 + 1) = [enc x]
    rw [List.drop_eq_nil_of_le (by omega)]
    rfl) (fun _ hk => hk.elim)
  rw [show (scalar enc h1).sz = 1 from rfl, Nat.mul_one, Nat.add_zero] at h2
  exact h2
end
end Kd
end Go.Proofs.YtoefnmhmiphilaaGreatDoorW.PrintWords

-- PRINTED BY print.sh 35421559b90ae4d0a3588c463048766b98c2df88dd9212a6774a882060cdf62d: not written by this session
namespace Go.Proofs.YtoefnmhmiphilaaGreatDoorW.PrintWords
open Go.RowKit
section
variable {P : Program}
theorem run_append_zeros (w : World) (base : Nat) (t ti ty e : TypeId) (i : TypeInfo) (z : Value) (size bytes : Nat) (ht : P.underlying t = some (.slice e)) {k : IntKind} (hti : P.underlying ti = some (.int k)) (hi : P.info? e = some i) (hz : i.zero = some z)
    (hsize : i.size = size) (hby : i.bytes = bytes) (hzs : z.cells.size = size) (hsz : 0 < size) (hb0 : 0 < bytes)
    (v : Value) (n : Nat) (xs : List Value) (hown : w.ownsRow base e size v n xs) (kx : IntKind) (m : Nat) (h1 : ∀ u ∈ (Builtin.zeroCells z.cells m).toList, u.oneCell' = true)
    (hbytes : (n + m) * bytes ≤ 140737488355328) (hbase : base ≤ w.heap.size) :
    ∃ v' w', (Builtin.append_ #[t, ti] ty #[v, .int kx m]).run P w = .ok v' w' ∧ w'.ownsRow base e size v' (n + m) (xs ++ (Builtin.zeroCells z.cells m).toList) ∧ w.grownBy w' v.ownBlock ∧
      (v'.ownBlock = v.ownBlock ∨ v'.ownBlock = some w.heap.size) := by
  subst hsize
  subst hby
  have hle : n + m ≤ 140737488355328 := Nat.le_trans (Nat.le_mul_of_pos_right _ hb0) hbytes
  have h63 : n + m ≤ maxLen := by simp only [maxLen]; omega
  have hw : IntKind.i64.wrap (m : Int) = m := by rw [IntKind.wrap_i64]; omega
  have hw0 : IntKind.i64.wrap 0 = 0 := by rw [IntKind.wrap_i64]; rfl
  have hneg : ¬ ((m : Int) < 0) := by omega
  have hmb : m * i.bytes ≤ 140737488355328 := Nat.le_trans (Nat.mul_le_mul_right _ (Nat.le_add_left m n)) hbytes
  have hbig : ¬ (281474976710656 < (m : Int) * (i.bytes : Int)) := by
    rw [← Int.natCast_mul]
    omega
  have hsn : i.size ≠ 0 := by omega
  obtain ⟨news, hnews⟩ : ∃ news, news = (Builtin.zeroCells z.cells m).toList := ⟨_, rfl⟩
  rw [← hnews] at h1 ⊢
  have hl : news.length = m * i.size := by rw [hnews, Array.length_toList, size_zeroCells, hzs]
  have hna : Builtin.zeroCells z.cells m = news.toArray := by rw [hnews]
  have hlen : (xs ++ news).length = (n + m) * i.size := by rw [List.length_append, hown.1, hl, Nat.add_mul]
  have hnil : m = 0 → news = [] := fun h => List.eq_nil_of_length_eq_zero (by rw [hl, h, Nat.zero_mul])
  have grown : ∀ (old : Nat), old < n + m → ∀ (row : Option Nat),
      (w.drew.alloc (.cells (xs.toArray ++ news.toArray ++ Builtin.zeroCells z.cells (grownCap w (n + m) old e - (n + m))) e)).ownsRow base e i.size
        (.slice (some ⟨w.heap.size, 0, none⟩) (n + m) (grownCap w (n + m) old e)) (n + m) (xs ++ news) ∧
      w.grownBy (w.drew.alloc (.cells (xs.toArray ++ news.toArray ++ Builtin.zeroCells z.cells (grownCap w (n + m) old e - (n + m))) e)) row := by
    intro old ho row
    have hge := grownCap_ge w (n + m) old e
    have hcm : grownCap w (n + m) old e ≤ maxLen := grownCap_le_maxLen w (n + m) old e h63
    refine ⟨⟨hlen, .inr ⟨w.heap.size, _, _, rfl, hbase, heap_alloc_new w.drew _, hge, hcm, ?_, ?_⟩⟩, ⟨rfl, rfl, rfl, by simp, fun k hk _ => heap_alloc_old w.drew _ hk⟩⟩
    · simp only [Array.size_append, List.size_toArray, size_zeroCells, hzs, hown.1, hl, ← Nat.add_mul]
      congr 1
      omega
    · simp only [Array.toList_append, List.append_assoc]
      rw [← List.append_assoc, ← hlen]
      exact List.take_left
  have runs : ∀ (A : Option Addr) (cap : Nat), cap < n + m → (Builtin.firstCells i.size n (.slice A n cap)).run P w.drew = .ok xs.toArray w.drew → (Builtin.append_ #[t, ti] ty #[.slice A n cap, .int kx m]).run P w =
      .ok (.slice (some ⟨w.heap.size, 0, none⟩) (n + m) (grownCap w (n + m) cap e)) (w.drew.alloc (.cells (xs.toArray ++ news.toArray ++ Builtin.zeroCells z.cells (grownCap w (n + m) cap e - (n + m))) e)) := by
    intro A cap hcap hfo
    have hn : ¬ (n + m ≤ cap) := by omega
    have h63' : ¬ (9223372036854775807 < ((n : Int) + (m : Int))) := by omega
    have hfit := growslice_fits hcap hbytes
    have h48' : ¬ (281474976710656 < Builtin.nextslicecap (n + m) cap * i.bytes) := by omega
    by_cases hm : m = 0
    · have hnl := hnil hm
      subst hm
      rw [hnl]
      simp only [Nat.add_zero] at hn h63' h48' ⊢
      have h63'' : ¬ (9223372036854775807 < (n : Int)) := by omega
      simp [Builtin.append_, run_underlying ht, run_underlying hti, sizeOf, typeInfo, zeroValue, hi, hz, asInt, asIntOf, hw0, hn, h63'', h48', Question.forced, hfo, newRow, grownCap]
    · have hmz : ¬ (m * i.size = 0) := Nat.mul_ne_zero hm hsn
      simp [Builtin.append_, run_underlying ht, run_underlying hti, sizeOf, typeInfo, zeroValue, hi, hz, asInt, asIntOf, hw, hneg, hbig, hn, h63', h48', Question.forced, hfo, newRow, grownCap, hmz, hna]
      congr 2
      apply Array.ext'
      simp [List.append_assoc]
  rcases hown.2 with ⟨rfl, rfl⟩ | ⟨g, cap, cur, rfl, hbg, hg, hnc, hcm, hcs, htake⟩
  · have hx : xs = [] := List.eq_nil_of_length_eq_zero (by simpa using hown.1)
    subst hx
    by_cases hm : m = 0
    · have hnl := hnil hm
      subst hm
      rw [hnl]
      refine ⟨.slice none 0 0, w, ?_, World.ownsRow_nil w base e i.size, ⟨rfl, rfl, rfl, Nat.le_refl _, fun _ _ _ => rfl⟩, Or.inl rfl⟩
      simp [Builtin.append_, run_underlying ht, run_underlying hti, sizeOf, typeInfo, hi, asInt, asIntOf, hw0]
    · have hgr := grown 0 (by omega) (Value.ownBlock (.slice none 0 0))
      exact ⟨_, _, runs none 0 (by omega) (by simp [Builtin.firstCells]), hgr.1, hgr.2, Or.inr rfl⟩
  · by_cases hroom : n + m ≤ cap
    · have hfit : n * i.size + news.length ≤ cur.size := by rw [hl, hcs, ← Nat.add_mul]; exact Nat.mul_le_mul_right _ hroom
      obtain ⟨cur', h3, h4, h5⟩ := setCells_row news (n * i.size) w cur hg hfit
      obtain ⟨s1, s2, s3, s4⟩ := setCells_same g news (n * i.size) w
      have hst := run_storeCells_cells (P := P) g (n * i.size) news 0 w (fun j hj => by rw [cell_of_row w g _ cur e (0, 0) hg]; simp; omega) (fun j _ => blk_frozen hg _) h1
      simp only [Nat.add_zero] at hst
      refine ⟨.slice (some ⟨g, 0, none⟩) (n + m) cap, w.setCells g (n * i.size) news, ?_, ⟨hlen, .inr ⟨g, cap, cur', rfl, hbg, h3, hroom, hcm, by rw [h4, hcs], ?_⟩⟩, ⟨s1, s2, s3, by rw [s4]; exact Nat.le_refl _, fun k _ hk => setCells_far news _ k (fun e => hk (by simp [Value.ownBlock, e]))⟩, Or.inl rfl⟩
      · by_cases hm : m = 0
        · have hnl := hnil hm
          subst hm
          rw [hnl] at hst ⊢
          simp [Builtin.append_, run_underlying ht, run_underlying hti, sizeOf, typeInfo, hi, asInt, asIntOf, hw0, hnc, add_plain, hst]
        · have hmz : ¬ (m * i.size = 0) := Nat.mul_ne_zero hm hsn
          simp [Builtin.append_, run_underlying ht, run_underlying hti, sizeOf, typeInfo, zeroValue, hi, hz, asInt, asIntOf, hw, hneg, hbig, hroom, hmz, hna, add_plain, hst]
      · rw [h5]
        have h6 : cur.toList.take (n * i.size) = xs := htake
        rw [h6, ← hlen]
        exact List.take_left
    · have holds : ∀ j u, xs[j]? = some u → w.cell? ((⟨g, 0, none⟩ : Addr).add j) = some u := hown.cells (g := g) rfl
      have hgr := grown cap (by omega) (Value.ownBlock (.slice (some ⟨g, 0, none⟩) n cap))
      exact ⟨_, _, runs (some ⟨g, 0, none⟩) cap (by omega) (run_firstCells_some (P := P) w.drew i.size n _ n cap xs hown.1 (by simpa using holds)), hgr.1, hgr.2, Or.inr rfl⟩
end
namespace Kd
theorem reps_zeros {α : Type} {R : α → List Value → Prop} {z : Value} {size : Nat} {z0 : α} (hz : z.cells.size = size) (hs : 0 < size) (h0 : R z0 z.cells.toList) (m : Nat) : Reps R size (List.replicate m z0) (Builtin.zeroCells z.cells m).toList := by
  have h := reps_made hz hs h0 m
  rw [show Builtin.zeroCells z.cells m = madeCells z.cells (m * size) by unfold Builtin.zeroCells madeCells; rw [hz]]
  exact h
section
variable {P : Program} {ops : Array Oper} {rest : List Oper} {o : Oper} {a : Act} {Q : Exit → Act → World → Prop} {Kc : Act → World → Prop} {α : Type}
theorem R_zeros_run (d : Kd α) {W : World} (base : Nat) (t ti ty e : TypeId) (z : Value) (bytes : Nat) (ht : P.underlying t = some (.slice e)) {k : IntKind} (hti : P.underlying ti = some (.int k)) (hinfo : (P.info? e).map (fun i => (i.zero, i.size, i.bytes)) = some (some z, d.sz, bytes)) (hz : z.cells.size = d.sz) (hs0 : 0 < d.sz) (hb0 : 0 < bytes)
    (v : Value) (xs : List α) (z0 : α) {ok : Nat → Prop} (hzero : d.M W base (fun _ => False) z0 z.cells.toList) (hfresh : ∀ k, W.heap.size ≤ k → ok k) (HO : d.R e W base ok v xs) (kx : IntKind) (n : Int) (h0 : 0 ≤ n) (hl : (xs.length + n.toNat) * bytes ≤ 140737488355328) (hbase : base ≤ W.heap.size) :
    ∃ v1 w1, (Builtin.append_ #[t, ti] ty #[v, .int kx n]).run P W = .ok v1 w1 ∧ d.R e w1 base ok v1 (xs ++ List.replicate n.toNat z0) ∧ W.grownBy w1 v.ownBlock ∧ (v1.ownBlock = v.ownBlock ∨ ∃ b, v1.ownBlock = some b ∧ W.heap.size ≤ b) := by
  obtain ⟨m, rfl⟩ := Int.eq_ofNat_of_zero_le h0
  simp only [Int.toNat_natCast] at hl ⊢
  obtain ⟨i0, hi, hzz⟩ := Option.map_eq_some_iff.1 hinfo
  simp only [Prod.mk.injEq] at hzz
  obtain ⟨hz0, hz1, hz2⟩ := hzz
  obtain ⟨hok, inner, hown, hr⟩ := HO
  have hnM : Reps (d.M W base (fun _ => False)) d.sz (List.replicate m z0) (Builtin.zeroCells z.cells m).toList := reps_zeros hz hs0 hzero m
  obtain ⟨v1, w1, hrun, h2, hg, hat⟩ := run_append_zeros (P := P) W base t ti ty e i0 z d.sz bytes ht hti hi hz0 hz1 hz2 hz hs0 hb0 v xs.length inner hown kx m (reps_one hnM hs0 (fun _ _ hp => d.K_one (d.K_of_M hp))) hl hbase
  have hat' : v1.ownBlock = v.ownBlock ∨ ∃ b, v1.ownBlock = some b ∧ W.heap.size ≤ b := by
    rcases hat with hat | hat
    · exact .inl hat
    · exact .inr ⟨_, hat, Nat.le_refl _⟩
  have hne : ∀ k, some k ≠ v.ownBlock → k < W.heap.size → some k ≠ v1.ownBlock := by
    intro k hk hlt
    rcases hat' with hat | ⟨b, hb, hle⟩
    · rw [hat]; exact hk
    · rw [hb]
      intro he
      injection he with he
      omega
  have step : ∀ {q : α} {c : List Value} {o : Nat → Prop}, d.M W base o q c → (∀ k, o k → ok k ∧ some k ≠ v.ownBlock) → d.M w1 base (fun k => ok k ∧ some k ≠ v1.ownBlock) q c := by
    intro q c o hq ho
    have h1 := d.M_move (w1 := w1) (fun k hk => hg.block k hk.2.2.1 (ho k hk.1).2) (d.M_bound hq)
    exact d.M_mono (fun k hk => ⟨(ho k hk.1).1, hne k (ho k hk.1).2 hk.2.2.1⟩) h1
  refine ⟨v1, w1, hrun, ⟨fun k hk => ?_, inner ++ (Builtin.zeroCells z.cells m).toList, by rw [List.length_append, List.length_replicate]; exact h2, reps_append (hr.imp_ (fun _ _ hq => step hq (fun _ hk => hk))) (hnM.imp_ (fun _ _ hq => step hq (fun _ hk => hk.elim)))⟩, hg, hat'⟩
  rcases hat' with hat | ⟨b, hb, hle⟩
  · exact hok k (hat ▸ hk)
  · rw [hb] at hk
    injection hk with hk
    exact hfresh k (by omega)
theorem R_append_zeros (d : Kd α) {w0 W : World} (base : Nat) (hgd : o.guard = none) (s x : Operand) (t ti e : TypeId) (z : Value) (bytes : Nat)
    (ho : o.op = .call { callee := .builtin .append, args := #[s, x], argTypes := #[t, ti] })
    (ht : P.underlying t = some (.slice e)) {k : IntKind} (hti : P.underlying ti = some (.int k)) (hinfo : (P.info? e).map (fun i => (i.zero, i.size, i.bytes)) = some (some z, d.sz, bytes)) (hz : z.cells.size = d.sz) (hs0 : 0 < d.sz) (hb0 : 0 < bytes)
    (v : Value) (xs : List α) (z0 : α) {kx : IntKind} (n : Int) (ok : Nat → Prop) (hs : a.eval s = v) (hx : a.eval x = .int kx n) (hzero : d.M W base (fun _ => False) z0 z.cells.toList) (hfresh : ∀ k, W.heap.size ≤ k → ok k)
    (HO : d.R e W base ok v xs) (h0 : 0 ≤ n) (HB : Below base w0 W) (hbase : base ≤ W.heap.size) (hl : (xs.length + n.toNat) * bytes ≤ 140737488355328)
    (h : ∀ v1 w1, d.R e w1 base ok v1 (xs ++ List.replicate n.toNat z0) → Below base w0 w1 → W.grownBy w1 v.ownBlock → (v1.ownBlock = v.ownBlock ∨ ∃ b, v1.ownBlock = some b ∧ W.heap.size ≤ b) → wpList P ops Q rest (a.put o.dst v1) w1) :
    wpList P ops Q (o :: rest) a W := by
  obtain ⟨v1, w1, hr1, h1, hg, hat⟩ := R_zeros_run (P := P) d base t ti o.type e z bytes ht hti hinfo hz hs0 hb0 v xs z0 hzero hfresh HO kx n h0 hl hbase
  refine wpList_plain hgd fun K hK => ?_
  unfold Oper.wp execOp
  simp only [ho, resolve, invoke, builtin, Sem.run_bind, Sem.run_pure, Result.andThen_ok, List.map_toArray, List.map_cons, List.map_nil, hs, hx, hr1]
  exact hK _ _ (h v1 w1 h1 (HB.grown hg hbase (R_base HO)) hg hat)
theorem R_append_zeros_step (d : Kd α) {w0 W : World} (base : Nat) (hw : Region.wanted o (yielded ops a.tmps) = true) (s x : Operand) (t ti e : TypeId) (z : Value) (bytes : Nat)
    (ho : o.op = .call { callee := .builtin .append, args := #[s, x], argTypes := #[t, ti] })
    (ht : P.underlying t = some (.slice e)) {k : IntKind} (hti : P.underlying ti = some (.int k)) (hinfo : (P.info? e).map (fun i => (i.zero, i.size, i.bytes)) = some (some z, d.sz, bytes)) (hz : z.cells.size = d.sz) (hs0 : 0 < d.sz) (hb0 : 0 < bytes)
    (v : Value) (xs : List α) (z0 : α) {kx : IntKind} (n : Int) (ok : Nat → Prop) (hs : a.eval s = v) (hx : a.eval x = .int kx n) (hzero : d.M W base (fun _ => False) z0 z.cells.toList) (hfresh : ∀ k, W.heap.size ≤ k → ok k)
    (HO : d.R e W base ok v xs) (h0 : 0 ≤ n) (HB : Below base w0 W) (hbase : base ≤ W.heap.size) (hl : (xs.length + n.toNat) * bytes ≤ 140737488355328)
    (h : ∀ v1 w1, d.R e w1 base ok v1 (xs ++ List.replicate n.toNat z0) → Below base w0 w1 → W.grownBy w1 v.ownBlock → (v1.ownBlock = v.ownBlock ∨ ∃ b, v1.ownBlock = some b ∧ W.heap.size ≤ b) → Kc (a.put o.dst v1) w1) :
    if Region.wanted o (yielded ops a.tmps) = true then Oper.wp P o a W Kc Q else Kc (a.put o.dst undef) W := by
  obtain ⟨v1, w1, hr1, h1, hg, hat⟩ := R_zeros_run (P := P) d base t ti o.type e z bytes ht hti hinfo hz hs0 hb0 v xs z0 hzero hfresh HO kx n h0 hl hbase
  rw [if_pos hw]
  unfold Oper.wp execOp
  simp only [ho, resolve, invoke, builtin, Sem.run_bind, Sem.run_pure, Result.andThen_ok, List.map_toArray, List.map_cons, List.map_nil, hs, hx, hr1]
  exact h v1 w1 h1 (HB.grown hg hbase (R_base HO)) hg hat
end
def tagO {α : Type} (f : Nat → Nat) (d : Kd α) : Kd (α × Option Nat) where
  sz := d.sz
  E := d.E
  K := fun w x cs => d.K w x.1 cs
  M := fun w base ok x cs => d.M w base (fun k => ok k ∧ some (f k) = x.2) x.1 cs
  K_len := fun h => d.K_len h
  K_one := fun h => d.K_one h
  K_below := fun hb h => d.K_below hb h
  K_of_M := fun h => d.K_of_M h
  M_mono := fun hok h => d.M_mono (fun k hk => ⟨hok k hk.1, hk.2⟩) h
  M_bound := fun h => d.M_mono (fun _ hk => ⟨⟨hk.1.1, hk.2⟩, hk.1.2⟩) (d.M_bound h)
  M_move := fun hm h => d.M_move (fun k hk => hm k hk.1) h
  M_lower := fun hb h => d.M_lower hb h
section
variable {α : Type} {d : Kd α} {e : Nat} {w : World} {base : Nat} {ok : Nat → Prop} {v : Value} {xs : List α}
def zipO (xs : List α) (z : α) (m : Nat) : List (α × Option Nat) := xs.zipIdx.map (fun p => (p.1, some p.2)) ++ List.replicate m (z, none)
theorem zipO_length (xs : List α) (z : α) (m : Nat) : (zipO xs z m).length = (xs ++ List.replicate m z).length := by simp [zipO]
theorem S_zipO {f : Nat → Nat} {z : α} {m : Nat} (h : (tagO f d).R e w base ok v (zipO xs z m)) : S d e w base ok v (xs ++ List.replicate m z) := by
  obtain ⟨h0, inner, ho, hr⟩ := h
  have hl := hr.1
  rw [zipO_length] at ho hl
  refine ⟨f, h0, inner, by rw [List.length_zipIdx]; exact ho, by rw [List.length_zipIdx]; exact hl, fun j p hj => ?_⟩
  rw [List.getElem?_zipIdx, Nat.zero_add] at hj
  obtain ⟨x, hx, rfl⟩ := Option.map_eq_some_iff.1 hj
  rcases Nat.lt_or_ge j xs.length with hlt | hge
  · rw [List.getElem?_append_left hlt] at hx
    have h2 := hr.2 j (x, some j) (by
      unfold zipO
      rw [List.getElem?_append_left (by simpa using hlt), List.getElem?_map, zip_at hx]
      rfl)
    exact d.M_mono (fun k hk => ⟨hk.1, by have := hk.2; simpa using this⟩) h2
  · rw [List.getElem?_append_right hge] at hx
    have hxz : z = x := by
      have := (List.getElem?_eq_some_iff.1 hx).2
      simpa using this
    subst hxz
    have hjm := (List.getElem?_eq_some_iff.1 hx).1
    have h2 := hr.2 j (z, none) (by
      unfold zipO
      rw [List.getElem?_append_right (by simpa using hge)]
      rw [List.getElem?_replicate]
      rw [List.length_replicate] at hjm
      rw [if_pos (by simpa using hjm)])
    exact d.M_mono (fun k hk => absurd hk.2 (by simp)) h2
theorem R_zipO (h : S d e w base ok v xs) : ∃ f, (tagO f d).R e w base ok v (xs.zipIdx.map (fun p => (p.1, some p.2))) := by
  obtain ⟨f, h0, inner, ho, hr⟩ := h
  refine ⟨f, h0, inner, by rw [List.length_map]; exact ho, by rw [List.length_map]; exact hr.1, fun j p hj => ?_⟩
  rw [List.getElem?_map] at hj
  obtain ⟨q, hq, rfl⟩ := Option.map_eq_some_iff.1 hj
  exact d.M_mono (fun k hk => ⟨hk.1, by have : f k = q.2 := hk.2; show some (f k) = some q.2; rw [this]⟩) (hr.2 j q hq)
end
section
variable {P : Program} {ops : Array Oper} {rest : List Oper} {o : Oper} {a : Act} {Q : Exit → Act → World → Prop} {Kc : Act → World → Prop} {α : Type}
theorem S_append_zeros (d : Kd α) {w0 W : World} (base : Nat) (hgd : o.guard = none) (s x : Operand) (t ti e : TypeId) (z : Value) (bytes : Nat)
    (ho : o.op = .call { callee := .builtin .append, args := #[s, x], argTypes := #[t, ti] })
    (ht : P.underlying t = some (.slice e)) {k : IntKind} (hti : P.underlying ti = some (.int k)) (hinfo : (P.info? e).map (fun i => (i.zero, i.size, i.bytes)) = some (some z, d.sz, bytes)) (hz : z.cells.size = d.sz) (hs0 : 0 < d.sz) (hb0 : 0 < bytes)
    (v : Value) (xs : List α) (z0 : α) {kx : IntKind} (n : Int) (ok : Nat → Prop) (hs : a.eval s = v) (hx : a.eval x = .int kx n) (hzero : d.M W base (fun _ => False) z0 z.cells.toList) (hfresh : ∀ k, W.heap.size ≤ k → ok k)
    (HO : S d e W base ok v xs) (h0 : 0 ≤ n) (HB : Below base w0 W) (hbase : base ≤ W.heap.size) (hl : (xs.length + n.toNat) * bytes ≤ 140737488355328)
    (h : ∀ v1 w1, S d e w1 base ok v1 (xs ++ List.replicate n.toNat z0) → Below base w0 w1 → W.grownBy w1 v.ownBlock → (v1.ownBlock = v.ownBlock ∨ ∃ b, v1.ownBlock = some b ∧ W.heap.size ≤ b) → wpList P ops Q rest (a.put o.dst v1) w1) :
    wpList P ops Q (o :: rest) a W := by
  obtain ⟨f, HR⟩ := R_zipO HO
  refine R_append_zeros (tagO f d) base hgd s x t ti e z bytes ho ht hti hinfo hz hs0 hb0 v _ (z0, none) n ok hs hx (d.M_mono (fun _ hk => hk.elim) hzero) hfresh HR h0 HB hbase (by rw [List.length_map, List.length_zipIdx]; exact hl) ?_
  intro v1 w1 hr
  exact h v1 w1 (S_zipO (f := f) hr)
theorem S_append_zeros_step (d : Kd α) {w0 W : World} (base : Nat) (hw : Region.wanted o (yielded ops a.tmps) = true) (s x : Operand) (t ti e : TypeId) (z : Value) (bytes : Nat)
    (ho : o.op = .call { callee := .builtin .append, args := #[s, x], argTypes := #[t, ti] })
    (ht : P.underlying t = some (.slice e)) {k : IntKind} (hti : P.underlying ti = some (.int k)) (hinfo : (P.info? e).map (fun i => (i.zero, i.size, i.bytes)) = some (some z, d.sz, bytes)) (hz : z.cells.size = d.sz) (hs0 : 0 < d.sz) (hb0 : 0 < bytes)
    (v : Value) (xs : List α) (z0 : α) {kx : IntKind} (n : Int) (ok : Nat → Prop) (hs : a.eval s = v) (hx : a.eval x = .int kx n) (hzero : d.M W base (fun _ => False) z0 z.cells.toList) (hfresh : ∀ k, W.heap.size ≤ k → ok k)
    (HO : S d e W base ok v xs) (h0 : 0 ≤ n) (HB : Below base w0 W) (hbase : base ≤ W.heap.size) (hl : (xs.length + n.toNat) * bytes ≤ 140737488355328)
    (h : ∀ v1 w1, S d e w1 base ok v1 (xs ++ List.replicate n.toNat z0) → Below base w0 w1 → W.grownBy w1 v.ownBlock → (v1.ownBlock = v.ownBlock ∨ ∃ b, v1.ownBlock = some b ∧ W.heap.size ≤ b) → Kc (a.put o.dst v1) w1) :
    if Region.wanted o (yielded ops a.tmps) = true then Oper.wp P o a W Kc Q else Kc (a.put o.dst undef) W := by
  obtain ⟨f, HR⟩ := R_zipO HO
  refine R_append_zeros_step (tagO f d) base hw s x t ti e z bytes ho ht hti hinfo hz hs0 hb0 v _ (z0, none) n ok hs hx (d.M_mono (fun _ hk => hk.elim) hzero) hfresh HR h0 HB hbase (by rw [List.length_map, List.length_zipIdx]; exact hl) ?_
  intro v1 w1 hr
  exact h v1 w1 (S_zipO (f := f) hr)
end
end Kd
end Go.Proofs.YtoefnmhmiphilaaGreatDoorW.PrintWords

-- PRINTED BY print.sh 35421559b90ae4d0a3588c463048766b98c2df88dd9212a6774a882060cdf62d: not written by this session
namespace Go.Proofs.YtoefnmhmiphilaaGreatDoorW.PrintWords
open Go.RowKit
def Foot (P : World → Prop) (W : World) (ok : Nat → Prop) : Prop := ∀ W' : World, (∀ k, ok k → k < W.heap.size → W'.heap[k]? = W.heap[k]?) → P W'
theorem heap_lt {W W1 : World} {k : Nat} (h : W1.heap[k]? = W.heap[k]?) (hlt : k < W.heap.size) : k < W1.heap.size := by
  rw [Array.getElem?_eq_getElem hlt] at h
  exact (Array.getElem?_eq_some_iff.1 h).1
namespace Foot
variable {P Q : World → Prop} {W W1 : World} {ok ok' : Nat → Prop}
theorem now (h : Foot P W ok) : P W := h W (fun _ _ _ => rfl)
theorem mono (h : Foot P W ok) (hok : ∀ k, ok k → ok' k) : Foot P W ok' := fun W' hW => h W' (fun k hk hlt => hW k (hok k hk) hlt)
theorem bound (h : Foot P W ok) : Foot P W (fun k => ok k ∧ k < W.heap.size) := fun W' hW => h W' (fun k hk hlt => hW k ⟨hk, hlt⟩ hlt)
theorem step (h : Foot P W ok) (hm : ∀ k, ok k → k < W.heap.size → W1.heap[k]? = W.heap[k]?) : Foot P W1 ok := fun W' hW => h W' (fun k hk hlt => (hW k hk (heap_lt (hm k hk hlt) hlt)).trans (hm k hk hlt))
theorem imp (h : Foot P W ok) (hi : ∀ W', P W' → Q W') : Foot Q W ok := fun W' hW => hi W' (h W' hW)
theorem old (h : Foot P W ok) (hb : Below W.heap.size W W1) : Foot P W1 (fun k => ok k ∧ k < W.heap.size) := (h.bound).step (fun k _ hlt => hb.block k hlt)
end Foot
namespace Kd
def F {α : Type} (d : Kd α) (W : World) (ok : Nat → Prop) (A : Option Addr) (n : Nat) (xs : List α) : Prop := Foot (fun W => d.C W A n xs) W ok
def FK {α : Type} (d : Kd α) (W : World) (ok : Nat → Prop) (x : α) (c : List Value) : Prop := Foot (fun W => d.K W x c) W ok
section
variable {α β : Type} {d : Kd α} {e base n n' cc g N : Nat} {ok ok' okp S : Nat → Prop} {w w0 w1 W W1 : World} {A A' : Option Addr} {u v v1 : Value} {xs : List α} {xs' : List β} {d' : Kd β} {x : α} {c : List Value}
theorem F_now (h : F d W ok A n xs) : d.C W A n xs := Foot.now h
theorem F_mono (h : F d W ok A n xs) (hok : ∀ k, ok k → ok' k) : F d W ok' A n xs := Foot.mono h hok
theorem F_bound (h : F d W ok A n xs) : F d W (fun k => ok k ∧ k < W.heap.size) A n xs := Foot.bound h
theorem F_step (h : F d W ok A n xs) (hm : ∀ k, ok k → k < W.heap.size → W1.heap[k]? = W.heap[k]?) : F d W1 ok A n xs := Foot.step h hm
theorem F_imp (h : F d W ok A n xs) (hi : ∀ W', d.C W' A n xs → d'.C W' A' n' xs') : F d' W ok A' n' xs' := Foot.imp h hi
theorem F_below (h : F d W ok A n xs) (hb : Below W.heap.size W W1) : F d W1 ok A n xs := F_step h (fun k _ hlt => hb.block k hlt)
theorem F_alloc (h : F d W ok A n xs) (o : Obj) : F d (W.alloc o) ok A n xs := F_below h (below_alloc (Below.refl _ _) o)
theorem F_drew (h : F d W ok A n xs) : F d W.drew ok A n xs := F_below h (below_drew (Below.refl _ _))
theorem F_drewN (h : F d W ok A n xs) (m : Nat) : F d (W.drewN m) ok A n xs := F_below h (pw_below_drewN (Below.refl _ _) m)
theorem F_grown (h : F d W ok A n xs) {row : Option Nat} (hg : W.grownBy W1 row) (hok : ∀ k, ok k → some k ≠ row) : F d W1 ok A n xs := F_step h (fun k hk hlt => hg.block k hlt (hok k hk))
theorem F_far (h : F d W ok A n xs) {p : Addr} (hok : ∀ k, ok k → k ≠ p.block) (u : Value) : F d (W.setCell p u) ok A n xs := F_step h (fun k hk _ => Below.heap_setCell W p u k (hok k hk))
theorem F_keep (h : F d W ok A n xs) (hk : KeepBut W W1 g none) (hok : ∀ k, ok k → k ≠ g) : F d W1 ok A n xs := F_step h (fun k ho hlt => hk.2 k hlt (hok k ho) (by simp))
theorem F_kept (h : F d W ok A n xs) (hk : Kept W W1 S) (hok : ∀ k, ok k → ¬ S k) : F d W1 ok A n xs := F_step h (fun k ho hlt => hk.2 k hlt (hok k ho))
theorem F_nil (d : Kd α) (W : World) (ok : Nat → Prop) : F d W ok none ([] : List α).length [] := fun W' _ => C_nil d W'
theorem F_len (h : F d W ok A n xs) : xs.length = n := (F_now h).1
theorem F_max (h : F d W ok A n xs) : n ≤ 9223372036854775807 := (F_now h).2.1
theorem F_elder' (h : F d W ok A n xs) (hbase : ∀ k, v.ownBlock = some k → W.heap.size ≤ k) (hb : Below W.heap.size W W1) : F d W1 (fun k => ok k ∧ some k ≠ v.ownBlock) A n xs :=
  F_mono (Foot.old h hb) (fun k hk => ⟨hk.1, fun he => by have := hbase k he.symm; have := hk.2; omega⟩)
theorem F_elderB (h : F d W ok A n xs) (a : Nat) (ha : W.heap.size ≤ a) : F d W (fun k => ok k ∧ k ≠ a) A n xs := F_mono (F_bound h) (fun k hk => ⟨hk.1, by have := hk.2; omega⟩)
theorem F_after (h : F d W (fun k => ok k ∧ some k ≠ v.ownBlock) A n xs) (hg : W.grownBy W1 v.ownBlock) (hat : v1.ownBlock = v.ownBlock ∨ ∃ b, v1.ownBlock = some b ∧ W.heap.size ≤ b) : F d W1 (fun k => ok k ∧ some k ≠ v1.ownBlock) A n xs := by
  refine F_mono (Foot.step (F_bound h) (fun k hk hlt => hg.block k hlt hk.1.2)) (fun k hk => ⟨hk.1.1, ?_⟩)
  rcases hat with hat | ⟨b, hb, hle⟩
  · rw [hat]; exact hk.1.2
  · rw [hb]
    intro he
    injection he with he
    have := hk.2
    omega
theorem F_old (h : F d W ok A n xs) (hb : Below W.heap.size W W1) : F d W1 (fun k => ok k ∧ k < W.heap.size) A n xs := Foot.old h hb
theorem F_oldK (h : F d W (fun k => ok k ∧ k ≠ g) A n xs) (hk : KeepBut W W1 g none) : F d W1 (fun k => ok k ∧ k < W.heap.size) A n xs :=
  F_mono (F_keep (F_bound h) hk (fun _ hk => hk.1.2)) (fun _ hk => ⟨hk.1.1, hk.2⟩)
theorem F_oldS (h : F d W (fun k => ok k ∧ ¬ S k) A n xs) (hk : Kept W W1 S) : F d W1 (fun k => ok k ∧ k < W.heap.size) A n xs :=
  F_mono (F_kept (F_bound h) hk (fun _ hk => hk.1.2)) (fun _ hk => ⟨hk.1.1, hk.2⟩)
theorem F_told (h : F d W1 (fun k => ok k ∧ k < N) A n xs) (hbase : ∀ k, v.ownBlock = some k → N ≤ k) : F d W1 (fun k => (ok k ∧ some k ≠ v.ownBlock) ∧ k < N) A n xs :=
  F_mono h (fun k hk => ⟨⟨hk.1, fun he => Nat.lt_irrefl _ (Nat.lt_of_lt_of_le hk.2 (hbase k he.symm))⟩, hk.2⟩)
theorem F_apart_nil (h : F d W ok A n xs) : F d W (fun k => ok k ∧ some k ≠ (Value.slice none 0 0).ownBlock) A n xs := F_mono h (fun k hk => ⟨hk, by simp [Value.ownBlock]⟩)
theorem F_drop (h : F d W (fun k => ok k ∧ ok' k) A n xs) : F d W ok A n xs := F_mono h (fun _ hk => hk.1)
theorem C_F (hd : Heap d) (h : d.C w A n xs) : F d w (fun k => k < w.heap.size) A n xs := fun _ hW => hd.C (fun k hlt => hW k hlt hlt) h
theorem R_F (h : d.R e W base ok (.slice A n cc) xs) : F d W ok A n xs := fun W' hW => by
  have h2 := R_reads' (R_step h hW)
  rw [h2.1]
  exact h2.2.2
theorem S_F (h : Kd.S d e W base ok (.slice A n cc) xs) : F d W ok A n xs := R_F (S_R h)
theorem Q_F (h : d.Q e W base ok (.slice A n cc) xs) : F d W ok A n xs := fun W' hW => by
  have h2 := Q_reads' (Q_step h hW)
  rw [h2.1]
  exact h2.2.2
theorem FK_now (h : FK d W ok x c) : d.K W x c := Foot.now h
theorem FK_mono (h : FK d W ok x c) (hok : ∀ k, ok k → ok' k) : FK d W ok' x c := Foot.mono h hok
theorem FK_bound (h : FK d W ok x c) : FK d W (fun k => ok k ∧ k < W.heap.size) x c := Foot.bound h
theorem FK_step (h : FK d W ok x c) (hm : ∀ k, ok k → k < W.heap.size → W1.heap[k]? = W.heap[k]?) : FK d W1 ok x c := Foot.step h hm
theorem FK_below (h : FK d W ok x c) (hb : Below W.heap.size W W1) : FK d W1 ok x c := FK_step h (fun k _ hlt => hb.block k hlt)
theorem FK_grown (h : FK d W ok x c) {row : Option Nat} (hg : W.grownBy W1 row) (hok : ∀ k, ok k → some k ≠ row) : FK d W1 ok x c := FK_step h (fun k hk hlt => hg.block k hlt (hok k hk))
theorem FK_of_M (h : d.M W base ok x c) : FK d W ok x c := fun _ hW => d.K_of_M (M_step h hW)
theorem emptied (W : World) (g : Nat) : ∃ W' : World, (∀ k, k ≠ g → W'.heap[k]? = W.heap[k]?) ∧ ∀ a : Addr, a.block = g → W'.cell? a = none := by
  refine ⟨{ W with heap := W.heap.setIfInBounds g (.cells #[] 0) }, fun k hk => by simp [Ne.symm hk], fun a ha => ?_⟩
  subst ha
  by_cases hlt : a.block < W.heap.size
  · simp [World.cell?, hlt]
  · simp [World.cell?, hlt]
end
end Kd
end Go.Proofs.YtoefnmhmiphilaaGreatDoorW.PrintWords

-- PRINTED BY print.sh 35421559b90ae4d0a3588c463048766b98c2df88dd9212a6774a882060cdf62d: not written by this session
namespace Go.Proofs.YtoefnmhmiphilaaGreatDoorW.PrintWords
open Go.RowKit
namespace Kd
def chunks (sz : Nat) (n : Nat) (inner : List Value) : List (List Value) := (List.range n).map fun j => (inner.drop (j * sz)).take sz
theorem chunks_length (sz n : Nat) (inner : List Value) : (chunks sz n inner).length = n := by simp [chunks]
theorem chunks_at {sz n : Nat} {inner : List Value} {j : Nat} (hj : j < n) : (chunks sz n inner)[j]? = some ((inner.drop (j * sz)).take sz) := by simp [chunks, hj]
theorem chunks_get {sz n : Nat} {inner : List Value} {j : Nat} {c : List Value} (h : (chunks sz n inner)[j]? = some c) : c = (inner.drop (j * sz)).take sz := by
  have hj : j < n := by have := (List.getElem?_eq_some_iff.1 h).1; rwa [chunks_length] at this
  rw [chunks_at hj] at h
  injection h with h
  exact h.symm
theorem reps_raw {α : Type} {Rr : α → List Value → Prop} {sz : Nat} {xs : List α} {inner : List Value} (h : Reps Rr sz xs inner) (hR : ∀ x c, Rr x c → c.length = sz ∧ ∀ u ∈ c, u.oneCell' = true) : Reps (fun x cs => cs = x ∧ cs.length = sz ∧ ∀ u ∈ cs, u.oneCell' = true) sz (chunks sz xs.length inner) inner := by
  refine ⟨by rw [chunks_length]; exact h.1, fun j p hj => ?_⟩
  have hjl : j < xs.length := by have := (List.getElem?_eq_some_iff.1 hj).1; rwa [chunks_length] at this
  have hp := chunks_get hj
  exact ⟨hp.symm, hR _ _ (h.2 j _ (List.getElem?_eq_getElem hjl))⟩
section
variable {α : Type} {d : Kd α} {e base n cc g : Nat} {ok ok' okp S : Nat → Prop} {w w1 W W1 : World} {A : Option Addr} {u v v1 : Value} {xs : List α} {x : α} {c : List Value}
theorem F_get (h : F d W ok A n xs) (z : α) (i : Int) (h0 : 0 ≤ i) (h1 : i < n) :
    ∃ ad c, A = some ad ∧ c.length = d.sz ∧ FK d W ok (xs.getD i.toNat z) c ∧ (∀ j u, c[j]? = some u → W.cell? (ad.add (i.toNat * d.sz + j)) = some u) ∧ (0 < d.sz → ok ad.block) := by
  obtain ⟨ad, c, rfl, hcl, hK, hcc⟩ := C_get (F_now h) z i h0 h1
  have hin : 0 < d.sz → ok ad.block := by
    intro hs
    by_cases hk : ok ad.block
    · exact hk
    · obtain ⟨W', h2, h3⟩ := emptied W ad.block
      obtain ⟨ad', c', he, hcl', _, hcc'⟩ := C_get (h W' (fun k hk' _ => h2 k (fun e => hk (e ▸ hk')))) z i h0 h1
      injection he with he
      subst he
      have h4 := hcc' 0 _ (List.getElem?_eq_getElem (by omega))
      rw [h3 _ (add_block _ _)] at h4
      cases h4
  refine ⟨ad, c, rfl, hcl, fun W' hW => ?_, hcc, hin⟩
  obtain ⟨ad', c', he, hcl', hK', hcc'⟩ := C_get (h W' hW) z i h0 h1
  injection he with he
  subst he
  have hc : c = c' := by
    apply List.ext_getElem?
    intro j
    by_cases hj : j < d.sz
    · have hb : W'.heap[ad.block]? = W.heap[ad.block]? := by
        have h5 := hcc j _ (List.getElem?_eq_getElem (by omega))
        have h6 := World.block_lt_of_cell? W _ h5
        rw [add_block] at h6
        exact hW _ (hin (by omega)) h6
      have h5 := hcc j _ (List.getElem?_eq_getElem (by omega))
      have h6 := hcc' j _ (List.getElem?_eq_getElem (by omega))
      have h7 : W'.cell? (ad.add (i.toNat * d.sz + j)) = W.cell? (ad.add (i.toNat * d.sz + j)) := by simp [World.cell?, add_block, hb]
      rw [h7, h5] at h6
      rw [List.getElem?_eq_getElem (by omega), List.getElem?_eq_getElem (by omega)]
      exact h6
    · rw [List.getElem?_eq_none (by omega), List.getElem?_eq_none (by omega)]
  rw [hc]
  exact hK'
theorem F_rows (h : F d W ok A n xs) : ReadsRow (fun x c => FK d W ok x c) d.sz W A n xs := by
  obtain ⟨hl, hm, hn⟩ := F_now h
  refine ⟨hl, hm, fun hp => ?_⟩
  obtain ⟨ad, rfl, _⟩ := hn hp
  refine ⟨ad, rfl, fun j p hj => ?_⟩
  obtain ⟨hjl, hjp⟩ := List.getElem?_eq_some_iff.1 hj
  obtain ⟨ad', c, he, hcl, hK, hcc, _⟩ := F_get h p (j : Int) (by omega) (by omega)
  injection he with he
  subst he
  simp only [Int.toNat_natCast] at hK hcc
  rw [List.getD_eq_getElem?_getD, hj] at hK
  exact ⟨c, hcl, hK, hcc⟩
def N {α : Type} (d : Kd α) (e : Nat) (w : World) (base : Nat) (ok : Nat → Prop) (v : Value) (xs : List α) : Prop :=
  (∀ k, v.ownBlock = some k → ok k) ∧ ∃ rows : List (List Value), rows.length = xs.length ∧ (raw d.sz).R e w base (fun k => some k = v.ownBlock) v rows ∧ ∀ (j : Nat) (x : α) (c : List Value), xs[j]? = some x → rows[j]? = some c → FK d w (fun k => ok k ∧ some k ≠ v.ownBlock) x c
theorem raw_tight {sz : Nat} {rows : List (List Value)} (h : (raw sz).R e w base ok v rows) : (raw sz).R e w base (fun k => some k = v.ownBlock) v rows := R_tight rfl h
theorem raw_any {sz : Nat} {rows : List (List Value)} (h : (raw sz).R e w base ok v rows) : (raw sz).R e w base (fun _ => True) v rows := R_mono h (fun _ _ => trivial)
theorem R_N (h : d.R e w base ok v xs) : N d e w base ok v xs := by
  obtain ⟨h0, inner, ho, hr⟩ := h
  refine ⟨h0, chunks d.sz xs.length inner, chunks_length _ _ _, ⟨fun k hk => hk.symm, inner, by rw [chunks_length]; exact ho, reps_raw hr (fun x c hp => ⟨d.K_len (d.K_of_M hp), d.K_one (d.K_of_M hp)⟩)⟩, fun j x c hx hc => ?_⟩
  rw [chunks_get hc]
  exact FK_of_M (hr.2 j x hx)
theorem S_N (h : Kd.S d e w base ok v xs) : N d e w base ok v xs := R_N (S_R h)
theorem N_nil (d : Kd α) (e : Nat) (w : World) (base : Nat) (ok : Nat → Prop) : N d e w base ok (.slice none 0 0) [] := R_N (R_nil _ _ _ _ _)
theorem N_mono (h : N d e w base ok v xs) (hok : ∀ k, ok k → ok' k) : N d e w base ok' v xs := by
  obtain ⟨h0, rows, hl, hR, hf⟩ := h
  exact ⟨fun k hk => hok k (h0 k hk), rows, hl, hR, fun j x c hx hc => FK_mono (hf j x c hx hc) (fun k hk => ⟨hok k hk.1, hk.2⟩)⟩
theorem N_lt (h : N d e w base ok v xs) : ∀ k, v.ownBlock = some k → k < w.heap.size := by
  obtain ⟨_, rows, _, hR, _⟩ := h
  exact R_lt hR
theorem N_base (h : N d e w base ok v xs) : ∀ k, v.ownBlock = some k → base ≤ k := by
  obtain ⟨_, rows, _, hR, _⟩ := h
  exact R_base hR
theorem N_base2 (h : N d e w base ok v xs) : v.ownBlock = none ∨ ∃ k, v.ownBlock = some k ∧ base ≤ k := by
  obtain ⟨_, rows, _, hR, _⟩ := h
  exact R_base2 hR
theorem N_typed (h : N d e w base ok v xs) : ∀ k, v.ownBlock = some k → ∃ cells, w.heap[k]? = some (.cells cells e (0, 0)) := by
  obtain ⟨_, rows, _, hR, _⟩ := h
  exact R_typed hR
theorem N_ne (h : N d e w base ok v xs) {t : Nat} {cells : Array Value} (hb : w.heap[g]? = some (.cells cells t (0, 0))) (ht : e ≠ t) : some g ≠ v.ownBlock := by
  obtain ⟨_, rows, _, hR, _⟩ := h
  exact R_ne hR hb ht
theorem N_away (h : N d e w base ok v xs) (hok : ∀ k, ok k → k ≠ g) : some g ≠ v.ownBlock := fun he => hok g (h.1 g he.symm) rfl
theorem N_bound (h : N d e w base ok v xs) : N d e w base (fun k => ok k ∧ k < w.heap.size) v xs := by
  have hlt := N_lt h
  obtain ⟨h0, rows, hl, hR, hf⟩ := h
  exact ⟨fun k hk => ⟨h0 k hk, hlt k hk⟩, rows, hl, hR, fun j x c hx hc => FK_mono (FK_bound (hf j x c hx hc)) (fun k hk => ⟨⟨hk.1.1, hk.2⟩, hk.1.2⟩)⟩
theorem N_lower {base' : Nat} (h : N d e w base ok v xs) (hb : base' ≤ base) : N d e w base' ok v xs := by
  obtain ⟨h0, rows, hl, hR, hf⟩ := h
  exact ⟨h0, rows, hl, R_lower hR hb, hf⟩
theorem N_step (h : N d e w base ok v xs) (hm : ∀ k, ok k → k < w.heap.size → w1.heap[k]? = w.heap[k]?) : N d e w1 base ok v xs := by
  obtain ⟨h0, rows, hl, hR, hf⟩ := h
  exact ⟨h0, rows, hl, R_step hR (fun k hk hlt => hm k (h0 k hk.symm) hlt), fun j x c hx hc => FK_step (hf j x c hx hc) (fun k hk hlt => hm k hk.1 hlt)⟩
theorem N_below (h : N d e w base ok v xs) (hb : Below w.heap.size w w1) : N d e w1 base ok v xs := N_step h (fun k _ hk => hb.block k hk)
theorem N_alloc (h : N d e w base ok v xs) (o : Obj) : N d e (w.alloc o) base ok v xs := N_below h (below_alloc (Below.refl _ _) o)
theorem N_drew (h : N d e w base ok v xs) : N d e w.drew base ok v xs := N_below h (below_drew (Below.refl _ _))
theorem N_drewN (h : N d e w base ok v xs) (m : Nat) : N d e (w.drewN m) base ok v xs := N_below h (pw_below_drewN (Below.refl _ _) m)
theorem N_grown (h : N d e w base ok v xs) {row : Option Nat} (hg : w.grownBy w1 row) (hok : ∀ k, ok k → some k ≠ row) : N d e w1 base ok v xs := N_step h (fun k ho hk => hg.block k hk (hok k ho))
theorem N_far (h : N d e w base ok v xs) {p : Addr} (hok : ∀ k, ok k → k ≠ p.block) (u : Value) : N d e (w.setCell p u) base ok v xs := N_step h (fun k ho _ => Below.heap_setCell w p u k (hok k ho))
theorem N_keep (h : N d e w base ok v xs) (hk : KeepBut w w1 g none) (hok : ∀ k, ok k → k ≠ g) : N d e w1 base ok v xs := N_step h (fun k ho hlt => hk.2 k hlt (hok k ho) (by simp))
theorem N_kept (h : N d e w base ok v xs) (hk : Kept w w1 S) (hok : ∀ k, ok k → ¬ S k) : N d e w1 base ok v xs := N_step h (fun k ho hlt => hk.2 k hlt (hok k ho))
theorem N_drop (h : N d e w base (fun k => ok k ∧ ok' k) v xs) : N d e w base ok v xs := N_mono h (fun _ hk => hk.1)
theorem N_apart_nil (h : N d e w base ok v xs) : N d e w base (fun k => ok k ∧ some k ≠ (Value.slice none 0 0).ownBlock) v xs := N_mono h (fun k hk => ⟨hk, by simp [Value.ownBlock]⟩)
theorem N_elder' (h : N d e W base ok v xs) (hbase : ∀ k, u.ownBlock = some k → W.heap.size ≤ k) (hb : Below W.heap.size W w1) : N d e w1 base (fun k => ok k ∧ some k ≠ u.ownBlock) v xs :=
  N_mono (N_below (N_bound h) hb) (fun k hk => ⟨hk.1, fun he => by have := hbase k he.symm; have := hk.2; omega⟩)
theorem N_elderB (h : N d e w base ok v xs) (a : Nat) (ha : w.heap.size ≤ a) : N d e w base (fun k => ok k ∧ k ≠ a) v xs := N_mono (N_bound h) (fun k hk => ⟨hk.1, by have := hk.2; omega⟩)
theorem N_after (h : N d e W base (fun k => ok k ∧ some k ≠ u.ownBlock) v xs) {u1 : Value} (hg : W.grownBy w1 u.ownBlock) (hat : u1.ownBlock = u.ownBlock ∨ ∃ b, u1.ownBlock = some b ∧ W.heap.size ≤ b) : N d e w1 base (fun k => ok k ∧ some k ≠ u1.ownBlock) v xs := by
  refine N_mono (N_step (N_bound h) (fun k hk hlt => hg.block k hlt hk.1.2)) (fun k hk => ⟨hk.1.1, ?_⟩)
  rcases hat with hat | ⟨b, hb, hle⟩
  · rw [hat]; exact hk.1.2
  · rw [hb]
    intro he
    injection he with he
    have := hk.2
    omega
theorem N_old (h : N d e W base ok v xs) (hb : Below W.heap.size W w1) : N d e w1 base (fun k => ok k ∧ k < W.heap.size) v xs := N_below (N_bound h) hb
theorem N_oldK (h : N d e W base (fun k => ok k ∧ k ≠ g) v xs) (hk : KeepBut W w1 g none) : N d e w1 base (fun k => ok k ∧ k < W.heap.size) v xs := N_mono (N_keep (N_bound h) hk (fun _ hk => hk.1.2)) (fun _ hk => ⟨hk.1.1, hk.2⟩)
theorem N_oldS (h : N d e W base (fun k => ok k ∧ ¬ S k) v xs) (hk : Kept W w1 S) : N d e w1 base (fun k => ok k ∧ k < W.heap.size) v xs := N_mono (N_kept (N_bound h) hk (fun _ hk => hk.1.2)) (fun _ hk => ⟨hk.1.1, hk.2⟩)
theorem N_told {b : Nat} (h : N d e w1 base (fun k => ok k ∧ k < b) v xs) (hbase : ∀ k, u.ownBlock = some k → b ≤ k) : N d e w1 base (fun k => (ok k ∧ some k ≠ u.ownBlock) ∧ k < b) v xs :=
  N_mono h (fun k hk => ⟨⟨hk.1, fun e => Nat.lt_irrefl _ (Nat.lt_of_lt_of_le hk.2 (hbase k e.symm))⟩, hk.2⟩)
theorem N_slice (h : N d e w base ok v xs) : ∃ A c, v = .slice A xs.length c := by
  obtain ⟨_, rows, hl, hR, _⟩ := h
  obtain ⟨A, c, he⟩ := R_slice hR
  exact ⟨A, c, by rw [he, hl]⟩
theorem N_val (h : N d e w base ok v xs) : v.cells.toList = [v] ∧ v.oneCell' = true := by
  obtain ⟨A, c, rfl⟩ := N_slice h
  exact ⟨rfl, rfl⟩
theorem N_form (h : N d e w base ok v xs) (hp : 0 < xs.length) : ∃ g cap, v = .slice (some ⟨g, 0, none⟩) xs.length cap ∧ base ≤ g ∧ g < w.heap.size ∧ ∃ cells, w.heap[g]? = some (.cells cells e (0, 0)) := by
  obtain ⟨_, rows, hl, hR, _⟩ := h
  rw [← hl] at hp ⊢
  exact R_form hR hp
theorem N_reads' {n c : Nat} (h : N d e w base ok (.slice A n c) xs) : n = xs.length ∧ n ≤ c ∧ d.C w A xs.length xs := by
  obtain ⟨_, rows, hl, hR, hf⟩ := h
  obtain ⟨hn, hc, hC⟩ := R_reads' hR
  refine ⟨by omega, hc, ?_⟩
  rw [hl] at hC
  refine ⟨rfl, hC.2.1, fun hp => ?_⟩
  obtain ⟨ad, he, hcell⟩ := hC.2.2 hp
  refine ⟨ad, he, fun j p hj => ?_⟩
  have hjl : j < rows.length := by have := (List.getElem?_eq_some_iff.1 hj).1; omega
  obtain ⟨c', hcl, hK, hcc⟩ := hcell j _ (List.getElem?_eq_getElem hjl)
  have hk := FK_now (hf j p _ hj (List.getElem?_eq_getElem hjl))
  refine ⟨c', hcl, ?_, hcc⟩
  rw [show c' = rows[j] from hK.1]
  exact hk
theorem N_reads (h : N d e w base ok v xs) : ∃ A c, v = .slice A xs.length c ∧ xs.length ≤ c ∧ d.C w A xs.length xs := by
  obtain ⟨A, c, rfl⟩ := N_slice h
  exact ⟨A, c, rfl, (N_reads' h).2⟩
theorem N_F {n : Nat} (h : N d e w base ok (.slice A n cc) xs) : F d w ok A n xs := fun W' hW => by
  have h2 := N_reads' (N_step h hW)
  rw [h2.1]
  exact h2.2.2
theorem N_elem {n cap : Nat} (h : N d e W base ok (.slice (some ⟨g, 0, none⟩) n cap) xs) (z : α) (i : Int) (h0 : 0 ≤ i) (h1 : i < n) :
    ∃ c, c.length = d.sz ∧ FK d W (fun k => ok k ∧ k ≠ g) (xs.getD i.toNat z) c ∧ (∀ j u, c[j]? = some u → W.cell? ⟨g, i.toNat * d.sz + j, none⟩ = some u) ∧ ∀ j, W.frozen? ⟨g, i.toNat * d.sz + j, none⟩ = false := by
  obtain ⟨_, rows, hl, hR, hf⟩ := h
  have hn := (R_reads' hR).1
  obtain ⟨c, hcl, hM, hcc, hfr⟩ := R_elem hR [] i h0 h1
  have hil : i.toNat < rows.length := by omega
  have hil' : i.toNat < xs.length := by omega
  have hc : c = rows[i.toNat] := by
    have h2 := hM.1
    rwa [List.getD_eq_getElem?_getD, List.getElem?_eq_getElem hil] at h2
  refine ⟨c, hcl, ?_, hcc, hfr⟩
  rw [List.getD_eq_getElem?_getD, List.getElem?_eq_getElem hil']
  exact FK_mono (hf _ _ _ (List.getElem?_eq_getElem hil') (by rw [hc]; exact List.getElem?_eq_getElem hil)) (fun k hk => ⟨hk.1, fun he => hk.2 (by rw [he]; simp [Value.ownBlock])⟩)
theorem N_get {ad : Addr} {n cap : Nat} (h : N d e W base ok (.slice (some ad) n cap) xs) (z : α) (i : Int) (h0 : 0 ≤ i) (h1 : i < n) :
    ∃ c, c.length = d.sz ∧ FK d W (fun k => ok k ∧ some k ≠ (Value.slice (some ad) n cap).ownBlock) (xs.getD i.toNat z) c ∧ ∀ j u, c[j]? = some u → W.cell? (ad.add (i.toNat * d.sz + j)) = some u := by
  obtain ⟨g, rfl⟩ : ∃ g, ad = ⟨g, 0, none⟩ := by
    obtain ⟨_, rows, _, hR, _⟩ := h
    exact R_head hR
  obtain ⟨c, hcl, hM, hcc, _⟩ := N_elem h z i h0 h1
  refine ⟨c, hcl, FK_mono hM (fun k hk => ⟨hk.1, fun he => hk.2 (by simpa [Value.ownBlock] using he)⟩), fun j u hu => ?_⟩
  rw [add_at, Nat.zero_add]
  exact hcc j u hu
end
end Kd
end Go.Proofs.YtoefnmhmiphilaaGreatDoorW.PrintWords

-- PRINTED BY print.sh 35421559b90ae4d0a3588c463048766b98c2df88dd9212a6774a882060cdf62d: not written by this session
namespace Go.Proofs.YtoefnmhmiphilaaGreatDoorW.PrintWords
open Go.RowKit
namespace Kd
section
variable {α : Type} {d : Kd α} {e base n cap g : Nat} {ok ok' okp : Nat → Prop} {w w1 W : World} {v v1 : Value} {xs ys : List α}
theorem N_appended {rows news : List (List Value)} (h0 : ∀ k, v.ownBlock = some k → ok k) (hl : rows.length = xs.length) (hf : ∀ (j : Nat) (x : α) (c : List Value), xs[j]? = some x → rows[j]? = some c → FK d W (fun k => ok k ∧ some k ≠ v.ownBlock) x c)
    (hl2 : news.length = ys.length) (hf2 : ∀ (j : Nat) (x : α) (c : List Value), ys[j]? = some x → news[j]? = some c → FK d W okp x c) (hokp : ∀ k, okp k → ok k ∧ some k ≠ v.ownBlock) (hfresh : ∀ k, W.heap.size ≤ k → ok k)
    (hR : (raw d.sz).R e w1 base (fun _ => True) v1 (rows ++ news)) (hg : W.grownBy w1 v.ownBlock) (hat : v1.ownBlock = v.ownBlock ∨ ∃ b, v1.ownBlock = some b ∧ W.heap.size ≤ b) : N d e w1 base ok v1 (xs ++ ys) := by
  have hne : ∀ k, some k ≠ v.ownBlock → k < W.heap.size → some k ≠ v1.ownBlock := by
    intro k hk hlt
    rcases hat with hat | ⟨b, hb, hle⟩
    · rw [hat]; exact hk
    · rw [hb]
      intro he
      injection he with he
      omega
  have step : ∀ {x : α} {c : List Value} {o : Nat → Prop}, FK d W o x c → (∀ k, o k → ok k ∧ some k ≠ v.ownBlock) → FK d w1 (fun k => ok k ∧ some k ≠ v1.ownBlock) x c := by
    intro x c o hq ho
    exact FK_mono (FK_step (FK_bound hq) (fun k hk hlt => hg.block k hlt (ho k hk.1).2)) (fun k hk => ⟨(ho k hk.1).1, hne k (ho k hk.1).2 hk.2⟩)
  refine ⟨fun k hk => ?_, rows ++ news, by rw [List.length_append, List.length_append, hl, hl2], raw_tight hR, fun j x c hx hc => ?_⟩
  · rcases hat with hat | ⟨b, hb, hle⟩
    · exact h0 k (hat ▸ hk)
    · rw [hb] at hk
      injection hk with hk
      exact hfresh k (by omega)
  · rcases Nat.lt_or_ge j xs.length with hlt | hge
    · rw [List.getElem?_append_left hlt] at hx
      rw [List.getElem?_append_left (by omega)] at hc
      exact step (hf j x c hx hc) (fun _ hk => hk)
    · rw [List.getElem?_append_right hge] at hx
      rw [List.getElem?_append_right (by omega), hl] at hc
      exact step (hf2 _ x c hx hc) hokp
theorem FK_raw {x : α} {c : List Value} (h : FK d W ok x c) : c = c ∧ c.length = d.sz ∧ ∀ u ∈ c, u.oneCell' = true := ⟨rfl, d.K_len (FK_now h), d.K_one (FK_now h)⟩
theorem N_made {rows : List (List Value)} (hR : (raw d.sz).R e w1 base (fun k => k = W.heap.size) v1 rows) (hg : W.grownBy w1 none) (hat : ∃ b, v1.ownBlock = some b ∧ W.heap.size ≤ b) (hl : rows.length = xs.length) (hf : ∀ (j : Nat) (x : α) (c : List Value), xs[j]? = some x → rows[j]? = some c → FK d W okp x c)
    (hok : ∀ k, okp k → ok k) (hfresh : ok W.heap.size) : N d e w1 base ok v1 xs := by
  obtain ⟨b, hb, hle⟩ := hat
  refine ⟨fun k hk => by rw [hR.1 k hk]; exact hfresh, rows, hl, raw_tight hR, fun j x c hx hc => ?_⟩
  refine FK_mono (FK_step (FK_bound (hf j x c hx hc)) (fun k hk hlt => hg.block k hlt (by simp))) (fun k hk => ⟨hok k hk.1, fun he => ?_⟩)
  rw [hb] at he
  injection he with he
  have := hk.2
  omega
theorem N_written {rows : List (List Value)} {i : Int} {x' : α} {c' : List Value} (h0 : ∀ k, (Value.slice (some ⟨g, 0, none⟩) n cap).ownBlock = some k → ok k) (hl : rows.length = xs.length) (hf : ∀ (j : Nat) (x : α) (c : List Value), xs[j]? = some x → rows[j]? = some c → FK d W (fun k => ok k ∧ some k ≠ (Value.slice (some ⟨g, 0, none⟩) n cap).ownBlock) x c)
    (hR : (raw d.sz).R e w1 base (fun _ => True) (.slice (some ⟨g, 0, none⟩) n cap) (rows.set i.toNat c')) (hg : W.grownBy w1 (some g)) (hM : FK d W okp x' c') (hokp : ∀ k, okp k → ok k ∧ k ≠ g) : N d e w1 base ok (.slice (some ⟨g, 0, none⟩) n cap) (xs.set i.toNat x') := by
  have hgo : some g = (Value.slice (some ⟨g, 0, none⟩) n cap).ownBlock := by simp [Value.ownBlock]
  refine ⟨h0, rows.set i.toNat c', by rw [List.length_set, List.length_set, hl], raw_tight hR, fun j x c hx hc => ?_⟩
  have hjl : j < xs.length := by have := (List.getElem?_eq_some_iff.1 hx).1; rwa [List.length_set] at this
  by_cases hji : j = i.toNat
  · subst hji
    rw [List.getElem?_set_self hjl] at hx
    rw [List.getElem?_set_self (by omega)] at hc
    injection hx with hx
    injection hc with hc
    rw [← hx, ← hc]
    exact FK_mono (FK_step hM (fun k hk hlt => hg.block k hlt (fun he => (hokp k hk).2 (by injection he)))) (fun k hk => ⟨(hokp k hk).1, fun he => (hokp k hk).2 (by rw [← hgo] at he; injection he)⟩)
  · rw [List.getElem?_set_ne (Ne.symm hji)] at hx hc
    exact FK_step (hf j x c hx hc) (fun k hk hlt => hg.block k hlt (by rw [hgo]; exact hk.2))
theorem N_erased {rows : List (List Value)} {k : Nat} (h0 : ∀ k, (Value.slice (some ⟨g, 0, none⟩) n cap).ownBlock = some k → ok k) (hl : rows.length = xs.length) (hf : ∀ (j : Nat) (x : α) (c : List Value), xs[j]? = some x → rows[j]? = some c → FK d W (fun k => ok k ∧ some k ≠ (Value.slice (some ⟨g, 0, none⟩) n cap).ownBlock) x c)
    {n' : Nat} (hR : (raw d.sz).R e w1 base (fun _ => True) (.slice (some ⟨g, 0, none⟩) n' cap) (rows.eraseIdx k)) (hg : W.grownBy w1 (some g)) : N d e w1 base ok (.slice (some ⟨g, 0, none⟩) n' cap) (xs.eraseIdx k) := by
  have hgo : ∀ m, some g = (Value.slice (some ⟨g, 0, none⟩) m cap).ownBlock := fun m => by simp [Value.ownBlock]
  refine ⟨fun b hb => h0 b (by rw [← hgo] at hb ⊢; exact hb), rows.eraseIdx k, by rw [List.length_eraseIdx, List.length_eraseIdx, hl], raw_tight hR, fun j x c hx hc => ?_⟩
  rw [List.getElem?_eraseIdx] at hx hc
  have key : ∀ j', xs[j']? = some x → rows[j']? = some c → FK d w1 (fun k => ok k ∧ some k ≠ (Value.slice (some ⟨g, 0, none⟩) n' cap).ownBlock) x c := fun j' h1 h2 =>
    FK_mono (FK_step (hf j' x c h1 h2) (fun b hb hlt => hg.block b hlt (by rw [hgo n]; exact hb.2))) (fun b hb => ⟨hb.1, by rw [← hgo]; rw [← hgo] at hb; exact hb.2⟩)
  by_cases hjk : j < k
  · rw [if_pos hjk] at hx hc
    exact key _ hx hc
  · rw [if_neg hjk] at hx hc
    exact key _ hx hc
theorem N_take {A : Option Addr} {m c : Nat} (h : N d e w base ok (.slice A n c) xs) (hm : m ≤ xs.length) : N d e w base ok (.slice A m c) (xs.take m) := by
  obtain ⟨h0, rows, hl, hR, hf⟩ := h
  have hb : ∀ x y : Nat, (Value.slice A x c).ownBlock = (Value.slice A y c).ownBlock := by
    intro x y
    cases A <;> rfl
  refine ⟨fun k hk => h0 k (by rw [hb _ m]; exact hk), rows.take m, by rw [List.length_take, List.length_take, hl], raw_tight (R_take (raw_any hR) (by omega)), fun j x c' hx hc => ?_⟩
  rw [List.getElem?_take] at hx hc
  split at hx
  · rename_i hj
    rw [if_pos hj] at hc
    rw [hb m n]
    exact hf j x c' hx hc
  · cases hx
theorem N_seg (h : N d e W base ok (.slice (some ⟨g, 0, none⟩) n cap) xs) (i : Int) (h0 : 0 ≤ i) (h1 : i < n) {c seg : List Value} {j : Nat} (hcl : c.length = d.sz) (hcc : ∀ j u, c[j]? = some u → W.cell? ⟨g, i.toNat * d.sz + j, none⟩ = some u)
    (hj : j + seg.length ≤ d.sz) {x' : α} (hM : FK d W okp x' (c.take j ++ seg ++ c.drop (j + seg.length))) (hokp : ∀ k, okp k → ok k ∧ k ≠ g) :
    N d e (W.setCells g (i.toNat * d.sz + j) seg) base ok (.slice (some ⟨g, 0, none⟩) n cap) (xs.set i.toNat x') ∧ W.grownBy (W.setCells g (i.toNat * d.sz + j) seg) (some g) := by
  obtain ⟨hown, rows, hl, hR, hf⟩ := h
  obtain ⟨h2, h3⟩ := R_seg (raw_any hR) i h0 h1 (c := c) (seg := seg) (j := j) (x' := c.take j ++ seg ++ c.drop (j + seg.length)) (okp := fun _ => False) hcl hcc hj ⟨rfl, d.K_len (FK_now hM), d.K_one (FK_now hM)⟩ (fun _ hk => hk.elim)
  exact ⟨N_written hown hl hf h2 h3 hM hokp, h3⟩
theorem reads_raw {Rr : α → List Value → Prop} {sz m : Nat} {A : Option Addr} (h : ReadsRow Rr sz W A m ys) (hR : ∀ x c, Rr x c → c.length = sz ∧ ∀ u ∈ c, u.oneCell' = true) :
    ∃ news : List (List Value), news.length = ys.length ∧ ReadsRow (fun x cs => cs = x ∧ cs.length = sz ∧ ∀ u ∈ cs, u.oneCell' = true) sz W A m news ∧ ∀ (j : Nat) (x : α) (c : List Value), ys[j]? = some x → news[j]? = some c → Rr x c := by
  rcases Nat.eq_zero_or_pos m with h0 | hp
  · have hy : ys = [] := List.eq_nil_of_length_eq_zero (h.1.trans h0)
    subst hy
    exact ⟨[], rfl, ⟨h0 ▸ rfl, h.2.1, fun hp => by omega⟩, fun j x c hx => by simp at hx⟩
  · obtain ⟨ad, rfl, _⟩ := h.2.2 hp
    obtain ⟨inner, hr, hc⟩ := ReadsRow.inner_ h
    refine ⟨chunks sz ys.length inner, chunks_length _ _ _, ⟨by rw [chunks_length]; exact h.1, h.2.1, fun _ => ⟨ad, rfl, fun j p hj => ?_⟩⟩, fun j x c hx hcc => ?_⟩
    · have hjl : j < ys.length := by have := (List.getElem?_eq_some_iff.1 hj).1; rwa [chunks_length] at this
      have hpe := chunks_get hj
      have hq := hR _ _ (hr.2 j _ (List.getElem?_eq_getElem hjl))
      rw [← hpe] at hq
      refine ⟨p, hq.1, ⟨rfl, hq⟩, fun i u hu => ?_⟩
      have hu2 : inner[j * sz + i]? = some u := by
        rw [hpe, List.getElem?_take] at hu
        split at hu
        · rw [List.getElem?_drop] at hu
          exact hu
        · cases hu
      exact hc _ u hu2
    · rw [chunks_get hcc]
      exact hr.2 j x hx
end
section
variable {P : Program} {ops : Array Oper} {rest : List Oper} {o : Oper} {a : Act} {Q : Exit → Act → World → Prop} {Kc : Act → World → Prop} {α : Type}
theorem N_append (d : Kd α) {w0 W : World} (base : Nat) (hgd : o.guard = none) (s x : Operand) (t e : TypeId) (z : Value) (bytes : Nat)
    (ho : o.op = .call { callee := .builtin .append, args := #[s, x], argTypes := #[t, t] })
    (ht : P.underlying t = some (.slice e)) (hinfo : (P.info? e).map (fun i => (i.zero, i.size, i.bytes)) = some (some z, d.sz, bytes)) (hz : z.cells.size = d.sz) (hs0 : 0 < d.sz) (hb0 : 0 < bytes)
    (v : Value) (xs : List α) (p : α) (cs : List Value) (ok okp : Nat → Prop) (hs : a.eval s = v) (hx : a.eval x = .slice (some ⟨W.heap.size, 0, none⟩) 1 1) (hp : FK d W okp p cs) (hokp : ∀ k, okp k → ok k ∧ some k ≠ v.ownBlock) (hfresh : ∀ k, W.heap.size ≤ k → ok k)
    (HO : N d e W base ok v xs) (HB : Below base w0 W) (hbase : base ≤ W.heap.size) (hl : (xs.length + 1) * bytes ≤ 140737488355328)
    (h : ∀ v1 w1, N d e w1 base ok v1 (xs ++ [p]) → Below base w0 w1 → W.grownBy w1 v.ownBlock → (v1.ownBlock = v.ownBlock ∨ ∃ b, v1.ownBlock = some b ∧ W.heap.size ≤ b) → wpList P ops Q rest (a.put o.dst v1) w1) :
    wpList P ops Q (o :: rest) a (W.alloc (.cells cs.toArray e)) := by
  obtain ⟨h0, rows, hlr, hR, hf⟩ := HO
  refine R_append (raw d.sz) base hgd s x t e z bytes ho ht hinfo hz hs0 hb0 v rows cs cs (fun _ => True) (fun _ => False) hs hx (FK_raw hp) (fun _ hk => hk.elim) (fun _ _ => trivial) (raw_any hR) HB hbase (by rw [hlr]; exact hl) ?_
  intro v1 w1 hr hb hg hat
  exact h v1 w1 (N_appended h0 hlr hf (ys := [p]) (news := [cs]) rfl (fun j y c hy hc => by
    rcases j with _ | j
    · simp only [List.getElem?_cons_zero, Option.some.injEq] at hy hc
      rw [← hy, ← hc]; exact hp
    · simp at hy) hokp hfresh hr hg hat) hb hg hat
theorem N_append_step (d : Kd α) {w0 W : World} (base : Nat) (hw : Region.wanted o (yielded ops a.tmps) = true) (s x : Operand) (t e : TypeId) (z : Value) (bytes : Nat)
    (ho : o.op = .call { callee := .builtin .append, args := #[s, x], argTypes := #[t, t] })
    (ht : P.underlying t = some (.slice e)) (hinfo : (P.info? e).map (fun i => (i.zero, i.size, i.bytes)) = some (some z, d.sz, bytes)) (hz : z.cells.size = d.sz) (hs0 : 0 < d.sz) (hb0 : 0 < bytes)
    (v : Value) (xs : List α) (p : α) (cs : List Value) (ok okp : Nat → Prop) (hs : a.eval s = v) (hx : a.eval x = .slice (some ⟨W.heap.size, 0, none⟩) 1 1) (hp : FK d W okp p cs) (hokp : ∀ k, okp k → ok k ∧ some k ≠ v.ownBlock) (hfresh : ∀ k, W.heap.size ≤ k → ok k)
    (HO : N d e W base ok v xs) (HB : Below base w0 W) (hbase : base ≤ W.heap.size) (hl : (xs.length + 1) * bytes ≤ 140737488355328)
    (h : ∀ v1 w1, N d e w1 base ok v1 (xs ++ [p]) → Below base w0 w1 → W.grownBy w1 v.ownBlock → (v1.ownBlock = v.ownBlock ∨ ∃ b, v1.ownBlock = some b ∧ W.heap.size ≤ b) → Kc (a.put o.dst v1) w1) :
    if Region.wanted o (yielded ops a.tmps) = true then Oper.wp P o a (W.alloc (.cells cs.toArray e)) Kc Q else Kc (a.put o.dst undef) (W.alloc (.cells cs.toArray e)) := by
  obtain ⟨h0, rows, hlr, hR, hf⟩ := HO
  refine R_append_step (raw d.sz) base hw s x t e z bytes ho ht hinfo hz hs0 hb0 v rows cs cs (fun _ => True) (fun _ => False) hs hx (FK_raw hp) (fun _ hk => hk.elim) (fun _ _ => trivial) (raw_any hR) HB hbase (by rw [hlr]; exact hl) ?_
  intro v1 w1 hr hb hg hat
  exact h v1 w1 (N_appended h0 hlr hf (ys := [p]) (news := [cs]) rfl (fun j y c hy hc => by
    rcases j with _ | j
    · simp only [List.getElem?_cons_zero, Option.some.injEq] at hy hc
      rw [← hy, ← hc]; exact hp
    · simp at hy) hokp hfresh hr hg hat) hb hg hat
theorem N_append_rows (d : Kd α) {w0 W : World} (base : Nat) (hgd : o.guard = none) (s x : Operand) (t e : TypeId) (z : Value) (bytes : Nat)
    (ho : o.op = .call { callee := .builtin .append, args := #[s, x], argTypes := #[t, t] })
    (ht : P.underlying t = some (.slice e)) (hinfo : (P.info? e).map (fun i => (i.zero, i.size, i.bytes)) = some (some z, d.sz, bytes)) (hz : z.cells.size = d.sz) (hs0 : 0 < d.sz) (hb0 : 0 < bytes)
    (v : Value) (xs ys : List α) (A : Option Addr) (m c : Nat) (ok okp : Nat → Prop) (hs : a.eval s = v) (hx : a.eval x = .slice A m c)
    (HO : N d e W base ok v xs) (HR : F d W okp A m ys) (hokp : ∀ k, okp k → ok k ∧ some k ≠ v.ownBlock) (hfresh : ∀ k, W.heap.size ≤ k → ok k)
    (HB : Below base w0 W) (hbase : base ≤ W.heap.size) (hl : (xs.length + m) * bytes ≤ 140737488355328)
    (h : ∀ v1 w1, N d e w1 base ok v1 (xs ++ ys) → Below base w0 w1 → W.grownBy w1 v.ownBlock → (v1.ownBlock = v.ownBlock ∨ ∃ b, v1.ownBlock = some b ∧ W.heap.size ≤ b) → wpList P ops Q rest (a.put o.dst v1) w1) :
    wpList P ops Q (o :: rest) a W := by
  obtain ⟨h0, rows, hlr, hR, hf⟩ := HO
  obtain ⟨news, hnl, hnr, hnf⟩ := reads_raw (F_rows HR) (fun y c hk => ⟨d.K_len (FK_now hk), d.K_one (FK_now hk)⟩)
  refine R_append_rows (raw d.sz) base hgd s x t e z bytes ho ht hinfo hz hs0 hb0 v rows news A m c (fun _ => True) (fun _ => False) hs hx (raw_any hR) hnr (fun _ _ hk => hk) (fun _ hk => hk.elim) (fun _ _ => trivial) HB hbase (by rw [hlr]; exact hl) ?_
  intro v1 w1 hr hb hg hat
  exact h v1 w1 (N_appended h0 hlr hf hnl hnf hokp hfresh hr hg hat) hb hg hat
theorem N_append_rows_step (d : Kd α) {w0 W : World} (base : Nat) (hw : Region.wanted o (yielded ops a.tmps) = true) (s x : Operand) (t e : TypeId) (z : Value) (bytes : Nat)
    (ho : o.op = .call { callee := .builtin .append, args := #[s, x], argTypes := #[t, t] })
    (ht : P.underlying t = some (.slice e)) (hinfo : (P.info? e).map (fun i => (i.zero, i.size, i.bytes)) = some (some z, d.sz, bytes)) (hz : z.cells.size = d.sz) (hs0 : 0 < d.sz) (hb0 : 0 < bytes)
    (v : Value) (xs ys : List α) (A : Option Addr) (m c : Nat) (ok okp : Nat → Prop) (hs : a.eval s = v) (hx : a.eval x = .slice A m c)
    (HO : N d e W base ok v xs) (HR : F d W okp A m ys) (hokp : ∀ k, okp k → ok k ∧ some k ≠ v.ownBlock) (hfresh : ∀ k, W.heap.size ≤ k → ok k)
    (HB : Below base w0 W) (hbase : base ≤ W.heap.size) (hl : (xs.length + m) * bytes ≤ 140737488355328)
    (h : ∀ v1 w1, N d e w1 base ok v1 (xs ++ ys) → Below base w0 w1 → W.grownBy w1 v.ownBlock → (v1.ownBlock = v.ownBlock ∨ ∃ b, v1.ownBlock = some b ∧ W.heap.size ≤ b) → Kc (a.put o.dst v1) w1) :
    if Region.wanted o (yielded ops a.tmps) = true then Oper.wp P o a W Kc Q else Kc (a.put o.dst undef) W := by
  obtain ⟨h0, rows, hlr, hR, hf⟩ := HO
  obtain ⟨news, hnl, hnr, hnf⟩ := reads_raw (F_rows HR) (fun y c hk => ⟨d.K_len (FK_now hk), d.K_one (FK_now hk)⟩)
  refine R_append_rows_step (raw d.sz) base hw s x t e z bytes ho ht hinfo hz hs0 hb0 v rows news A m c (fun _ => True) (fun _ => False) hs hx (raw_any hR) hnr (fun _ _ hk => hk) (fun _ hk => hk.elim) (fun _ _ => trivial) HB hbase (by rw [hlr]; exact hl) ?_
  intro v1 w1 hr hb hg hat
  exact h v1 w1 (N_appended h0 hlr hf hnl hnf hokp hfresh hr hg hat) hb hg hat
theorem N_append_zeros (d : Kd α) {w0 W : World} (base : Nat) (hgd : o.guard = none) (s x : Operand) (t ti e : TypeId) (z : Value) (bytes : Nat)
    (ho : o.op = .call { callee := .builtin .append, args := #[s, x], argTypes := #[t, ti] })
    (ht : P.underlying t = some (.slice e)) {k : IntKind} (hti : P.underlying ti = some (.int k)) (hinfo : (P.info? e).map (fun i => (i.zero, i.size, i.bytes)) = some (some z, d.sz, bytes)) (hz : z.cells.size = d.sz) (hs0 : 0 < d.sz) (hb0 : 0 < bytes)
    (v : Value) (xs : List α) (z0 : α) {kx : IntKind} (n : Int) (ok : Nat → Prop) (hs : a.eval s = v) (hx : a.eval x = .int kx n) (hzero : FK d W (fun _ => False) z0 z.cells.toList) (hfresh : ∀ k, W.heap.size ≤ k → ok k)
    (HO : N d e W base ok v xs) (h0 : 0 ≤ n) (HB : Below base w0 W) (hbase : base ≤ W.heap.size) (hl : (xs.length + n.toNat) * bytes ≤ 140737488355328)
    (h : ∀ v1 w1, N d e w1 base ok v1 (xs ++ List.replicate n.toNat z0) → Below base w0 w1 → W.grownBy w1 v.ownBlock → (v1.ownBlock = v.ownBlock ∨ ∃ b, v1.ownBlock = some b ∧ W.heap.size ≤ b) → wpList P ops Q rest (a.put o.dst v1) w1) :
    wpList P ops Q (o :: rest) a W := by
  obtain ⟨h0', rows, hlr, hR, hf⟩ := HO
  refine R_append_zeros (raw d.sz) base hgd s x t ti e z bytes ho ht hti hinfo hz hs0 hb0 v rows z.cells.toList n (fun _ => True) hs hx (FK_raw hzero) (fun _ _ => trivial) (raw_any hR) h0 HB hbase (by rw [hlr]; exact hl) ?_
  intro v1 w1 hr hb hg hat
  refine h v1 w1 (N_appended h0' hlr hf (ys := List.replicate n.toNat z0) (news := List.replicate n.toNat z.cells.toList) (by rw [List.length_replicate, List.length_replicate]) (okp := fun _ => False) (fun j y c hy hc => ?_) (fun _ hk => hk.elim) hfresh hr hg hat) hb hg hat
  have h1 := (List.getElem?_eq_some_iff.1 hy).2
  have h2 := (List.getElem?_eq_some_iff.1 hc).2
  rw [List.getElem_replicate] at h1 h2
  rw [← h1, ← h2]
  exact hzero
theorem N_append_zeros_step (d : Kd α) {w0 W : World} (base : Nat) (hw : Region.wanted o (yielded ops a.tmps) = true) (s x : Operand) (t ti e : TypeId) (z : Value) (bytes : Nat)
    (ho : o.op = .call { callee := .builtin .append, args := #[s, x], argTypes := #[t, ti] })
    (ht : P.underlying t = some (.slice e)) {k : IntKind} (hti : P.underlying ti = some (.int k)) (hinfo : (P.info? e).map (fun i => (i.zero, i.size, i.bytes)) = some (some z, d.sz, bytes)) (hz : z.cells.size = d.sz) (hs0 : 0 < d.sz) (hb0 : 0 < bytes)
    (v : Value) (xs : List α) (z0 : α) {kx : IntKind} (n : Int) (ok : Nat → Prop) (hs : a.eval s = v) (hx : a.eval x = .int kx n) (hzero : FK d W (fun _ => False) z0 z.cells.toList) (hfresh : ∀ k, W.heap.size ≤ k → ok k)
    (HO : N d e W base ok v xs) (h0 : 0 ≤ n) (HB : Below base w0 W) (hbase : base ≤ W.heap.size) (hl : (xs.length + n.toNat) * bytes ≤ 140737488355328)
    (h : ∀ v1 w1, N d e w1 base ok v1 (xs ++ List.replicate n.toNat z0) → Below base w0 w1 → W.grownBy w1 v.ownBlock → (v1.ownBlock = v.ownBlock ∨ ∃ b, v1.ownBlock = some b ∧ W.heap.size ≤ b) → Kc (a.put o.dst v1) w1) :
    if Region.wanted o (yielded ops a.tmps) = true then Oper.wp P o a W Kc Q else Kc (a.put o.dst undef) W := by
  obtain ⟨h0', rows, hlr, hR, hf⟩ := HO
  refine R_append_zeros_step (raw d.sz) base hw s x t ti e z bytes ho ht hti hinfo hz hs0 hb0 v rows z.cells.toList n (fun _ => True) hs hx (FK_raw hzero) (fun _ _ => trivial) (raw_any hR) h0 HB hbase (by rw [hlr]; exact hl) ?_
  intro v1 w1 hr hb hg hat
  refine h v1 w1 (N_appended h0' hlr hf (ys := List.replicate n.toNat z0) (news := List.replicate n.toNat z.cells.toList) (by rw [List.length_replicate, List.length_replicate]) (okp := fun _ => False) (fun j y c hy hc => ?_) (fun _ hk => hk.elim) hfresh hr hg hat) hb hg hat
  have h1 := (List.getElem?_eq_some_iff.1 hy).2
  have h2 := (List.getElem?_eq_some_iff.1 hc).2
  rw [List.getElem_replicate] at h1 h2
  rw [← h1, ← h2]
  exact hzero
theorem N_lit (d : Kd α) {w0 W : World} (base e : Nat) (hgd : o.guard = none) {N' : Tmp} (_hd : o.dst = some N') {xs : List α} {inner : List Value} {ok okp : Nat → Prop}
    (hrun : (execOp a.eval o).run P W = .ok (.value (.slice (some ⟨W.heap.size, 0, none⟩) xs.length xs.length)) (W.alloc (.cells inner.toArray e)))
    (hrep : Reps (FK d W okp) d.sz xs inner) (hok : ∀ k, okp k → ok k) (hfresh : ok W.heap.size) (HB : Below base w0 W) (hbase : base ≤ W.heap.size) (hm : xs.length ≤ 9223372036854775807)
    (h : ∀ v1 w1, N d e w1 base ok v1 xs → Below base w0 w1 → W.grownBy w1 none → (∃ b, v1.ownBlock = some b ∧ W.heap.size ≤ b) → wpList P ops Q rest (a.put o.dst v1) w1) :
    wpList P ops Q (o :: rest) a W := by
  refine R_lit (raw d.sz) base e hgd _hd (xs := chunks d.sz xs.length inner) (inner := inner) (ok := fun k => k = W.heap.size) (okp := fun _ => False) (by rw [chunks_length]; exact hrun) (reps_raw hrep (fun y c hk => ⟨d.K_len (FK_now hk), d.K_one (FK_now hk)⟩)) (fun _ hk => hk.elim) rfl HB hbase (by rw [chunks_length]; exact hm) ?_
  intro v1 w1 hr hb hg hat
  exact h v1 w1 (N_made hr hg hat (chunks_length _ _ _) (fun j y c hy hc => by rw [chunks_get hc]; exact hrep.2 j y hy) hok hfresh) hb hg hat
theorem N_lit_step (d : Kd α) {w0 W : World} (base e : Nat) (hw : Region.wanted o (yielded ops a.tmps) = true) {N' : Tmp} (_hd : o.dst = some N') {xs : List α} {inner : List Value} {ok okp : Nat → Prop}
    (hrun : (execOp a.eval o).run P W = .ok (.value (.slice (some ⟨W.heap.size, 0, none⟩) xs.length xs.length)) (W.alloc (.cells inner.toArray e)))
    (hrep : Reps (FK d W okp) d.sz xs inner) (hok : ∀ k, okp k → ok k) (hfresh : ok W.heap.size) (HB : Below base w0 W) (hbase : base ≤ W.heap.size) (hm : xs.length ≤ 9223372036854775807)
    (h : ∀ v1 w1, N d e w1 base ok v1 xs → Below base w0 w1 → W.grownBy w1 none → (∃ b, v1.ownBlock = some b ∧ W.heap.size ≤ b) → Kc (a.put o.dst v1) w1) :
    if Region.wanted o (yielded ops a.tmps) = true then Oper.wp P o a W Kc Q else Kc (a.put o.dst undef) W := by
  refine R_lit_step (raw d.sz) base e hw _hd (xs := chunks d.sz xs.length inner) (inner := inner) (ok := fun k => k = W.heap.size) (okp := fun _ => False) (by rw [chunks_length]; exact hrun) (reps_raw hrep (fun y c hk => ⟨d.K_len (FK_now hk), d.K_one (FK_now hk)⟩)) (fun _ hk => hk.elim) rfl HB hbase (by rw [chunks_length]; exact hm) ?_
  intro v1 w1 hr hb hg hat
  exact h v1 w1 (N_made hr hg hat (chunks_length _ _ _) (fun j y c hy hc => by rw [chunks_get hc]; exact hrep.2 j y hy) hok hfresh) hb hg hat
theorem N_make (d : Kd α) {w0 W : World} (base e : Nat) (hgd : o.guard = none) {N' : Tmp} (hd : o.dst = some N') (t : TypeId) (x y : Operand) (ho : o.op = .makeSlice t x y) (n : Int) (hx : a.eval x = .int .i64 n) (hy : a.eval y = .int .i64 n)
    (ht : P.underlying t = some (.slice e)) (z : Value) (bytes : Nat) (hinfo : (P.info? e).map (fun i => (i.zero, i.size, i.bytes)) = some (some z, d.sz, bytes)) (hz : z.cells.size = d.sz) (hs0 : 0 < d.sz) (hb0 : 0 < bytes)
    (z0 : α) {ok okp : Nat → Prop} (hzero : FK d W okp z0 z.cells.toList) (hok : ∀ k, okp k → ok k) (hfresh : ok W.heap.size) (h0 : 0 ≤ n) (hl : n.toNat * bytes ≤ 281474976710656) (HB : Below base w0 W) (hbase : base ≤ W.heap.size)
    (h : ∀ v1 w1, N d e w1 base ok v1 (List.replicate n.toNat z0) → Below base w0 w1 → W.grownBy w1 none → (∃ b, v1.ownBlock = some b ∧ W.heap.size ≤ b) → wpList P ops Q rest (a.put o.dst v1) w1) :
    wpList P ops Q (o :: rest) a W := by
  refine R_make (raw d.sz) base e hgd hd t x y ho n hx hy ht z bytes hinfo hz hs0 hb0 z.cells.toList (ok := fun k => k = W.heap.size) (okp := fun _ => False) (FK_raw hzero) (fun _ hk => hk.elim) rfl h0 hl HB hbase ?_
  intro v1 w1 hr hb hg hat
  refine h v1 w1 (N_made hr hg hat (by rw [List.length_replicate, List.length_replicate]) (fun j y c hy hc => ?_) hok hfresh) hb hg hat
  have h1 := (List.getElem?_eq_some_iff.1 hy).2
  have h2 := (List.getElem?_eq_some_iff.1 hc).2
  rw [List.getElem_replicate] at h1 h2
  rw [← h1, ← h2]
  exact hzero
theorem N_make_step (d : Kd α) {w0 W : World} (base e : Nat) (hw : Region.wanted o (yielded ops a.tmps) = true) {N' : Tmp} (hd : o.dst = some N') (t : TypeId) (x y : Operand) (ho : o.op = .makeSlice t x y) (n : Int) (hx : a.eval x = .int .i64 n) (hy : a.eval y = .int .i64 n)
    (ht : P.underlying t = some (.slice e)) (z : Value) (bytes : Nat) (hinfo : (P.info? e).map (fun i => (i.zero, i.size, i.bytes)) = some (some z, d.sz, bytes)) (hz : z.cells.size = d.sz) (hs0 : 0 < d.sz) (hb0 : 0 < bytes)
    (z0 : α) {ok okp : Nat → Prop} (hzero : FK d W okp z0 z.cells.toList) (hok : ∀ k, okp k → ok k) (hfresh : ok W.heap.size) (h0 : 0 ≤ n) (hl : n.toNat * bytes ≤ 281474976710656) (HB : Below base w0 W) (hbase : base ≤ W.heap.size)
    (h : ∀ v1 w1, N d e w1 base ok v1 (List.replicate n.toNat z0) → Below base w0 w1 → W.grownBy w1 none → (∃ b, v1.ownBlock = some b ∧ W.heap.size ≤ b) → Kc (a.put o.dst v1) w1) :
    if Region.wanted o (yielded ops a.tmps) = true then Oper.wp P o a W Kc Q else Kc (a.put o.dst undef) W := by
  refine R_make_step (raw d.sz) base e hw hd t x y ho n hx hy ht z bytes hinfo hz hs0 hb0 z.cells.toList (ok := fun k => k = W.heap.size) (okp := fun _ => False) (FK_raw hzero) (fun _ hk => hk.elim) rfl h0 hl HB hbase ?_
  intro v1 w1 hr hb hg hat
  refine h v1 w1 (N_made hr hg hat (by rw [List.length_replicate, List.length_replicate]) (fun j y c hy hc => ?_) hok hfresh) hb hg hat
  have h1 := (List.getElem?_eq_some_iff.1 hy).2
  have h2 := (List.getElem?_eq_some_iff.1 hc).2
  rw [List.getElem_replicate] at h1 h2
  rw [← h1, ← h2]
  exact hzero
theorem N_store (d : Kd α) {w0 W : World} (base : Nat) (hN : o.dst = none) (hgd : o.guard = none) (t : TypeId) (p x : Operand) (ho : o.op = .store t p x) (e : TypeId) {g n cap o' : Nat} (i : Int) (j : Nat) (xs : List α) (x' : α) (u : Value) (seg c : List Value) (ok okp : Nat → Prop)
    (haddr : a.eval p = .pointer (some ⟨g, o', none⟩)) (hoff : o' = i.toNat * d.sz + j) (hx : a.eval x = u) (hu : u.cells.toList = seg) (ht : (P.info? t).map (·.size) = some seg.length) (h1 : ∀ q ∈ seg, q.oneCell' = true)
    (HO : N d e W base ok (.slice (some ⟨g, 0, none⟩) n cap) xs) (h0 : 0 ≤ i) (hi : i < n) (hcl : c.length = d.sz) (hcc : ∀ j u, c[j]? = some u → W.cell? ⟨g, i.toNat * d.sz + j, none⟩ = some u)
    (hj : j + seg.length ≤ d.sz) (hM : FK d W okp x' (c.take j ++ seg ++ c.drop (j + seg.length))) (hokp : ∀ k, okp k → ok k ∧ k ≠ g) (HB : Below base w0 W)
    (h : ∀ w1, N d e w1 base ok (.slice (some ⟨g, 0, none⟩) n cap) (xs.set i.toNat x') → Below base w0 w1 → W.grownBy w1 (some g) → wpList P ops Q rest a w1) : wpList P ops Q (o :: rest) a W := by
  obtain ⟨hown, rows, hl, hR, hf⟩ := HO
  refine R_store (raw d.sz) base hN hgd t p x ho e i j rows (c.take j ++ seg ++ c.drop (j + seg.length)) u seg c (fun _ => True) (fun _ => False) haddr hoff hx hu ht h1 (raw_any hR) h0 hi hcl hcc hj (FK_raw hM) (fun _ hk => hk.elim) HB ?_
  intro w1 hr hb hg
  exact h w1 (N_written hown hl hf hr hg hM hokp) hb hg
theorem N_delete (d : Kd α) {w0 W : World} (base : Nat) (hgd : o.guard = none) (s x : Operand) (t e : TypeId) (ho : o.op = .call { callee := .builtin .append, args := #[s, x], argTypes := #[t, t] })
    (ht : P.underlying t = some (.slice e)) (hinfo : (P.info? e).map (·.size) = some d.sz) {g n c k m c2 : Nat} {A : Option Addr} {xs : List α} {ok : Nat → Prop}
    (hs : a.eval s = .slice (some ⟨g, 0, none⟩) k c) (hx : a.eval x = .slice A m c2) (hA : A = if c = k + 1 then some ⟨g, 0, none⟩ else (some (⟨g, 0, none⟩ : Addr)).map (·.add ((k + 1) * d.sz))) (hm : m = n - (k + 1))
    (HO : N d e W base ok (.slice (some ⟨g, 0, none⟩) n c) xs) (hk : k < n) (HB : Below base w0 W) (hbase : base ≤ W.heap.size)
    (h : ∀ w1, N d e w1 base ok (.slice (some ⟨g, 0, none⟩) (n - 1) c) (xs.eraseIdx k) → Below base w0 w1 → W.grownBy w1 (some g) → wpList P ops Q rest (a.put o.dst (.slice (some ⟨g, 0, none⟩) (n - 1) c)) w1) : wpList P ops Q (o :: rest) a W := by
  obtain ⟨hown, rows, hl, hR, hf⟩ := HO
  exact R_delete (raw d.sz) base hgd s x t e ho ht hinfo hs hx hA hm (raw_any hR) hk HB hbase (fun w1 hr hb hg => h w1 (N_erased hown hl hf hr hg) hb hg)
theorem N_delete_step (d : Kd α) {w0 W : World} (base : Nat) (hw : Region.wanted o (yielded ops a.tmps) = true) (s x : Operand) (t e : TypeId) (ho : o.op = .call { callee := .builtin .append, args := #[s, x], argTypes := #[t, t] })
    (ht : P.underlying t = some (.slice e)) (hinfo : (P.info? e).map (·.size) = some d.sz) {g n c k m c2 : Nat} {A : Option Addr} {xs : List α} {ok : Nat → Prop}
    (hs : a.eval s = .slice (some ⟨g, 0, none⟩) k c) (hx : a.eval x = .slice A m c2) (hA : A = if c = k + 1 then some ⟨g, 0, none⟩ else (some (⟨g, 0, none⟩ : Addr)).map (·.add ((k + 1) * d.sz))) (hm : m = n - (k + 1))
    (HO : N d e W base ok (.slice (some ⟨g, 0, none⟩) n c) xs) (hk : k < n) (HB : Below base w0 W) (hbase : base ≤ W.heap.size)
    (h : ∀ w1, N d e w1 base ok (.slice (some ⟨g, 0, none⟩) (n - 1) c) (xs.eraseIdx k) → Below base w0 w1 → W.grownBy w1 (some g) → Kc (a.put o.dst (.slice (some ⟨g, 0, none⟩) (n - 1) c)) w1) :
    if Region.wanted o (yielded ops a.tmps) = true then Oper.wp P o a W Kc Q else Kc (a.put o.dst undef) W := by
  obtain ⟨hown, rows, hl, hR, hf⟩ := HO
  exact R_delete_step (raw d.sz) base hw s x t e ho ht hinfo hs hx hA hm (raw_any hR) hk HB hbase (fun w1 hr hb hg => h w1 (N_erased hown hl hf hr hg) hb hg)
end
end Kd
end Go.Proofs.YtoefnmhmiphilaaGreatDoorW.PrintWords

-- PRINTED BY print.sh 35421559b90ae4d0a3588c463048766b98c2df88dd9212a6774a882060cdf62d: not written by this session
-- PRINTED WORDS (module Derived/Print/More.lean): go-gate-2's additions: an AI agent of Go's test side, Tue Nov 17 2026; no person has read it. Lean checks it.
namespace Go.Proofs.YtoefnmhmiphilaaGreatDoorW.PrintMore
open Go.RowKit Go.Proofs.YtoefnmhmiphilaaGreatDoorW.PrintWords
namespace Kd
open Go.Proofs.YtoefnmhmiphilaaGreatDoorW.PrintWords.Kd
theorem R_get {α : Type} {d : Kd α} {e base n cap : Nat} {ok : Nat → Prop} {W : World} {ad : Addr} {xs : List α} (h : d.R e W base ok (.slice (some ad) n cap) xs) (z : α) (i : Int) (h0 : 0 ≤ i) (h1 : i < n) :
    ∃ c, c.length = d.sz ∧ d.M W base (fun k => ok k ∧ some k ≠ (Value.slice (some ad) n cap).ownBlock) (xs.getD i.toNat z) c ∧ ∀ j u, c[j]? = some u → W.cell? (ad.add (i.toNat * d.sz + j)) = some u := by
  obtain ⟨g, hg⟩ : ∃ g, ad = ⟨g, 0, none⟩ := by
    obtain ⟨_, inner, ho, _⟩ := h
    rcases ho.2 with ⟨hv, _⟩ | ⟨g, cap', cur, hv, _⟩
    · cases hv
    · injection hv with ha _ _
      injection ha with ha
      exact ⟨g, ha⟩
  subst hg
  obtain ⟨c, hcl, hM, hcc, _⟩ := R_elem h z i h0 h1
  refine ⟨c, hcl, d.M_mono (fun k hk => ⟨hk.1, fun he => hk.2 ?_⟩) hM, fun j u hu => ?_⟩
  · rw [add_at, Nat.zero_add]
    exact hcc j u hu
  · simpa [Value.ownBlock] using he
end Kd

namespace Kd
open Go.Proofs.YtoefnmhmiphilaaGreatDoorW.PrintWords.Kd
section
variable {α : Type} {d : Kd α} {e base g N : Nat} {ok : Nat → Prop} {W w1 : World} {u v : Value} {xs : List α}
theorem R_old (hu : d.R e W base ok u xs) (hb : Below W.heap.size W w1) : d.R e w1 base (fun k => ok k ∧ k < W.heap.size) u xs :=
  R_mono (R_below (R_bound hu) hb) (fun _ h => ⟨h.1, h.2.2.1⟩)
theorem R_oldK (hu : d.R e W base (fun k => ok k ∧ k ≠ g) u xs) (hk : KeepBut W w1 g none) : d.R e w1 base (fun k => ok k ∧ k < W.heap.size) u xs :=
  R_mono (R_keep (R_bound hu) hk (fun _ h => h.1.2)) (fun _ h => ⟨h.1.1, h.2.2.1⟩)
theorem R_told (h : d.R e w1 base (fun k => ok k ∧ k < N) u xs) (hbase : ∀ k, v.ownBlock = some k → N ≤ k) : d.R e w1 base (fun k => (ok k ∧ some k ≠ v.ownBlock) ∧ k < N) u xs :=
  R_mono h (fun k hk => ⟨⟨hk.1, fun e => Nat.lt_irrefl _ (Nat.lt_of_lt_of_le hk.2 (hbase k e.symm))⟩, hk.2⟩)
end
end Kd
theorem max2_int (k k' : IntKind) (x y : Int) : Builtin.max2 (.int k x) (.int k' y) = pure (.int k (if x < y then y else x)) := by simp only [Builtin.max2, gt_iff_lt]
theorem min2_int (k k' : IntKind) (x y : Int) : Builtin.min2 (.int k x) (.int k' y) = pure (.int k (if y < x then y else x)) := by simp only [Builtin.min2]
theorem max_two (ats : Array TypeId) (ty : TypeId) (a b : Value) : Builtin.max_ ats ty #[a, b] = (Builtin.max2 a b >>= fun s => pure s) := by simp only [Builtin.max_, List.foldlM_cons, List.foldlM_nil]
theorem min_two (ats : Array TypeId) (ty : TypeId) (a b : Value) : Builtin.min_ ats ty #[a, b] = (Builtin.min2 a b >>= fun s => pure s) := by simp only [Builtin.min_, List.foldlM_cons, List.foldlM_nil]
theorem max_three (ats : Array TypeId) (ty : TypeId) (a b c : Value) : Builtin.max_ ats ty #[a, b, c] = (Builtin.max2 a b >>= fun s => Builtin.max2 s c >>= fun s => pure s) := by simp only [Builtin.max_, List.foldlM_cons, List.foldlM_nil]
theorem min_three (ats : Array TypeId) (ty : TypeId) (a b c : Value) : Builtin.min_ ats ty #[a, b, c] = (Builtin.min2 a b >>= fun s => Builtin.min2 s c >>= fun s => pure s) := by simp only [Builtin.min_, List.foldlM_cons, List.foldlM_nil]
theorem max_four (ats : Array TypeId) (ty : TypeId) (a b c d : Value) : Builtin.max_ ats ty #[a, b, c, d] = (Builtin.max2 a b >>= fun s => Builtin.max2 s c >>= fun s => Builtin.max2 s d >>= fun s => pure s) := by simp only [Builtin.max_, List.foldlM_cons, List.foldlM_nil]
theorem min_four (ats : Array TypeId) (ty : TypeId) (a b c d : Value) : Builtin.min_ ats ty #[a, b, c, d] = (Builtin.min2 a b >>= fun s => Builtin.min2 s c >>= fun s => Builtin.min2 s d >>= fun s => pure s) := by simp only [Builtin.min_, List.foldlM_cons, List.foldlM_nil]
end Go.Proofs.YtoefnmhmiphilaaGreatDoorW.PrintMore
namespace Go.Proofs.YtoefnmhmiphilaaGreatDoorW.PrintWords
open Go.RowKit
section
variable {P : Program} {ops : Array Oper} {rest : List Oper} {o : Oper} {a : Act} {Q : Exit → Act → World → Prop} {W : World}
theorem gate_callee {f : FuncId} {as' : Array Operand} {ts : Array TypeId} (_ho : o.op = .call { callee := .value (.func f), args := as', argTypes := ts }) (h : wpList P ops Q (o :: rest) a W) : wpList P ops Q (o :: rest) a W := h
theorem gate_builtin {b : Builtin} {xs : Array Operand} {ts : Array TypeId} (_ho : o.op = .call { callee := .builtin b, args := xs, argTypes := ts }) (h : wpList P ops Q (o :: rest) a W) : wpList P ops Q (o :: rest) a W := h
end
theorem calls_of_args {P : Program} {f : FuncId} {args args' : Array Value} {w : World} {Q : Ending → World → Prop} (h : args = args') (hc : Calls P f args' w Q) : Calls P f args w Q := h ▸ hc
def mx (a b : Int) : Int := if a < b then b else a
def mn (a b : Int) : Int := if b < a then b else a
def shl (k : IntKind) (x y : Int) : Int := k.wrap (x * 2 ^ min y.toNat k.bits)
def shr (k : IntKind) (x y : Int) : Int := x / 2 ^ min y.toNat k.bits
theorem shl_small {k : IntKind} {x y j : Int} (h : shl k x y = j) (hy : y ≤ k.bits) : k.wrap (x * 2 ^ y.toNat) = j := by rw [← h]; unfold shl; rw [Nat.min_eq_left (by omega)]
theorem shr_small {k : IntKind} {x y j : Int} (h : shr k x y = j) (hy : y ≤ k.bits) : x / 2 ^ y.toNat = j := by rw [← h]; unfold shr; rw [Nat.min_eq_left (by omega)]
theorem drewN_self (w : World) (n : Nat) : w.drewN n = w.drewN n := rfl
theorem cell_unalloc {W : World} {o : Obj} {a : Addr} {v : Value} (h : (W.alloc o).cell? a = some v) (hlt : a.block < W.heap.size) : W.cell? a = some v := (World.cell?_alloc_lt _ _ _ hlt).symm.trans h
theorem cell_grown {W w1 : World} {row : Option Nat} (hg : W.grownBy w1 row) {a : Addr} {v : Value} (h : W.cell? a = some v) (hne : some a.block ≠ row) : w1.cell? a = some v := by
  have := hg.block a.block (World.block_lt_of_cell? W a h) hne
  simpa [World.cell?, this] using h
namespace Kd
section
variable {α : Type} {d : Kd α} {e base : Nat} {ok : Nat → Prop} {W w1 : World} {v : Value} {xs : List α}
theorem R_grown1 (h : d.R e W base ok v xs) (hE : d.E = []) {row : Option Nat} (hg : W.grownBy w1 row) (hne : row ≠ v.ownBlock) : d.R e w1 base ok v xs :=
  R_mono (R_grown (R_tight hE h) hg (fun _ hk e_ => hne (e_.symm.trans hk))) (fun k hk => h.1 k hk.symm)
theorem R_far1 (h : d.R e W base ok v xs) (hE : d.E = []) {g : Nat} (hne : some g ≠ v.ownBlock) : d.R e W base (fun k => ok k ∧ k ≠ g) v xs :=
  R_mono (R_tight hE h) (fun k hk => ⟨h.1 k hk.symm, fun e_ => hne (by rw [← e_]; exact hk)⟩)
theorem R_grown2 (h : d.R e W base ok v xs) (hE : d.E = []) {row : Option Nat} (hg : W.grownBy w1 row) (hne : ∀ k, row = some k → some k ≠ v.ownBlock) : d.R e w1 base ok v xs :=
  R_mono (R_grown (R_tight hE h) hg (fun k hk e_ => hne k e_.symm hk)) (fun k hk => h.1 k hk.symm)
end
section
variable {α : Type} {d : Kd α} {e base g n cap : Nat} {ok oki okp : Nat → Prop} {W : World} {xs : List α} {i : Int} {c : List Value}
theorem H_at (h : H d e W base ok (.slice (some ⟨g, 0, none⟩) n cap) xs i oki c) (h0 : 0 ≤ i) (h1 : i < n) : (∀ j u, c[j]? = some u → W.cell? ⟨g, i.toNat * d.sz + j, none⟩ = some u) ∧ ∀ j, W.frozen? ⟨g, i.toNat * d.sz + j, none⟩ = false := by
  obtain ⟨rows, _, hraw, _, _, hcc, _⟩ := H_raw h h0 h1
  obtain ⟨_, _, _, _, hfr⟩ := R_elem hraw [] i h0 h1
  exact ⟨hcc, hfr⟩
theorem S_seg0 (hH : H d e W base ok (.slice (some ⟨g, 0, none⟩) n cap) xs i oki c) (h0 : 0 ≤ i) (h1 : i < n) {seg : List Value} {j : Nat} (hj : j + seg.length ≤ d.sz)
    {x' : α} (hM : d.M W base okp x' (c.take j ++ seg ++ c.drop (j + seg.length))) (hokp : ∀ k, okp k → oki k) :
    S d e (W.setCells g (i.toNat * d.sz + j) seg) base ok (.slice (some ⟨g, 0, none⟩) n cap) (xs.set i.toNat x') ∧ W.grownBy (W.setCells g (i.toNat * d.sz + j) seg) (some g) :=
  S_seg (okg := fun _ => False) (H_mono hH (fun _ hk => ⟨hk, fun h => h⟩)) h0 h1 hj hM (fun k hk => .inl (hokp k hk)) (fun _ hk => hk.elim)
end
section
variable {α : Type} {d : Kd α} {e base b b' g N : Nat} {ok ok1 : Nat → Prop} {W W2 w1 : World} {u v : Value} {xs ys : List α} {S : Nat → Prop}
theorem Q_tight (hE : d.E = []) (h : d.Q e W base ok v xs) : d.Q e W base (fun k => some k = v.ownBlock) v xs := by
  obtain ⟨h0, inner, ho, hr⟩ := h
  refine ⟨fun k hk => hk.symm, inner, ho, hr.imp_ (fun p c hp => d.M_mono (fun k hk => ?_) (d.M_bound hp))⟩
  obtain ⟨_, _, _, q, hq, _⟩ := hk
  rw [hE] at hq
  cases hq
theorem Q_ok (h : d.Q e W base ok v xs) : ∀ k, v.ownBlock = some k → ok k := h.1
theorem Q_grown1 (h : d.Q e W base ok v xs) (hE : d.E = []) {row : Option Nat} (hg : W.grownBy w1 row) (hne : row ≠ v.ownBlock) : d.Q e w1 base ok v xs :=
  Q_mono (Q_grown (Q_tight hE h) hg (fun _ hk e_ => hne (e_.symm.trans hk))) (fun k hk => h.1 k hk.symm)
theorem Q_grown2 (h : d.Q e W base ok v xs) (hE : d.E = []) {row : Option Nat} (hg : W.grownBy w1 row) (hne : ∀ k, row = some k → some k ≠ v.ownBlock) : d.Q e w1 base ok v xs :=
  Q_mono (Q_grown (Q_tight hE h) hg (fun k hk e_ => hne k e_.symm hk)) (fun k hk => h.1 k hk.symm)
theorem Q_far1 (h : d.Q e W base ok v xs) (hE : d.E = []) {g : Nat} (hne : some g ≠ v.ownBlock) : d.Q e W base (fun k => ok k ∧ k ≠ g) v xs :=
  Q_mono (Q_tight hE h) (fun k hk => ⟨h.1 k hk.symm, fun e_ => hne (by rw [← e_]; exact hk)⟩)
theorem R_tight2 (hE : d.E = []) (h : d.R e W base ok v xs) : d.R e W base (fun k => some k = v.ownBlock ∧ ok k) v xs := R_mono (R_tight hE h) (fun k hk => ⟨hk, h.1 k hk.symm⟩)
theorem R_reok (hE : d.E = []) (h : d.R e W base ok1 v xs) (hok : ∀ k, v.ownBlock = some k → ok k) : d.R e W base ok v xs := R_mono (R_tight hE h) (fun k hk => hok k hk.symm)
theorem own_raise {n size : Nat} {cs : List Value} (h : W.ownsRow b e size v n cs) (hb : ∀ k, v.ownBlock = some k → b' ≤ k) : W.ownsRow b' e size v n cs := by
  obtain ⟨h1, h2⟩ := h
  refine ⟨h1, ?_⟩
  rcases h2 with h2 | ⟨g, cap, cur, rfl, _, r⟩
  · exact .inl h2
  · exact .inr ⟨g, cap, cur, rfl, hb g (by simp [Value.ownBlock]), r⟩
theorem R_raise (hM : ∀ w ok x cs, d.M w b ok x cs → d.M w b' ok x cs) (h : d.R e W b ok v xs) (hb : ∀ k, v.ownBlock = some k → b' ≤ k) : d.R e W b' ok v xs := by
  obtain ⟨h0, inner, ho, hr⟩ := h
  exact ⟨h0, inner, own_raise ho hb, hr.imp_ (fun _ _ hp => hM _ _ _ _ hp)⟩
theorem R_keptB (h : d.R e W base ok v xs) (hk : Kept W W2 S) (hne : ∀ k, ok k → ¬ S k) : d.R e W2 base (fun k => ok k ∧ (¬ S k ∧ k < W.heap.size)) v xs :=
  R_kept (R_mono (R_bound h) (fun k hk => ⟨hk.1, hne k hk.1, hk.2.2.1⟩)) hk (fun _ hk => hk.2.1)
theorem Q_keptB (h : d.Q e W base ok v xs) (hk : Kept W W2 S) (hne : ∀ k, ok k → ¬ S k) : d.Q e W2 base (fun k => ok k ∧ (¬ S k ∧ k < W.heap.size)) v xs :=
  Q_kept (Q_mono (Q_bound h) (fun k hk => ⟨hk.1, hne k hk.1, hk.2.2.1⟩)) hk (fun _ hk => hk.2.1)
theorem S_keptB (h : Kd.S d e W base ok v xs) (hk : Kept W W2 S) (hne : ∀ k, ok k → ¬ S k) : Kd.S d e W2 base (fun k => ok k ∧ (¬ S k ∧ k < W.heap.size)) v xs :=
  S_kept (S_mono (S_bound h) (fun k hk => ⟨hk.1, hne k hk.1, hk.2.2.1⟩)) hk (fun _ hk => hk.2.1)
theorem Q_old (hu : d.Q e W base ok u xs) (hb : Below W.heap.size W w1) : d.Q e w1 base (fun k => ok k ∧ k < W.heap.size) u xs := Q_mono (Q_below (Q_bound hu) hb) (fun _ h => ⟨h.1, h.2.2.1⟩)
theorem Q_oldK (hu : d.Q e W base (fun k => ok k ∧ k ≠ g) u xs) (hk : KeepBut W w1 g none) : d.Q e w1 base (fun k => ok k ∧ k < W.heap.size) u xs := Q_mono (Q_keep (Q_bound hu) hk (fun _ h => h.1.2)) (fun _ h => ⟨h.1.1, h.2.2.1⟩)
theorem Q_apart_nil (h : d.Q e W base ok u xs) : d.Q e W base (fun k => ok k ∧ some k ≠ (Value.slice none 0 0).ownBlock) u xs := Q_mono h (fun k hk => ⟨hk, by simp [Value.ownBlock]⟩)
theorem Q_told (h : d.Q e w1 base (fun k => ok k ∧ k < N) u xs) (hbase : ∀ k, v.ownBlock = some k → N ≤ k) : d.Q e w1 base (fun k => (ok k ∧ some k ≠ v.ownBlock) ∧ k < N) u xs :=
  Q_mono h (fun k hk => ⟨⟨hk.1, fun e => Nat.lt_irrefl _ (Nat.lt_of_lt_of_le hk.2 (hbase k e.symm))⟩, hk.2⟩)
end
end Kd
end Go.Proofs.YtoefnmhmiphilaaGreatDoorW.PrintWords
namespace Go.Proofs.YtoefnmhmiphilaaGreatDoorW.PrintWords
open Go.RowKit
theorem Kept.keepG {w W W2 : World} {S2 : Nat → Prop} {g : Nat} (h : KeepBut w W g none) (k : Kept W W2 S2) (hs : ∀ k, S2 k → k = g ∨ w.heap.size ≤ k) : KeepBut w W2 g none :=
  ⟨Nat.le_trans h.1 k.1, fun i hi hg hr => (k.2 i (Nat.lt_of_lt_of_le hi h.1) (fun h2 => (hs i h2).elim hg (fun h3 => by omega))).trans (h.2 i hi hg hr)⟩
namespace Kd
def V {α : Type} (d : Kd α) (_e : Nat) (W : World) (_base : Nat) (ok : Nat → Prop) (v : Value) (xs : List α) : Prop := ∃ A c, v = .slice A xs.length c ∧ xs.length ≤ c ∧ F d W ok A xs.length xs
section
variable {α β : Type} {d : Kd α} {e base base' n m c g N' lo hi : Nat} {ok ok' S : Nat → Prop} {w W w1 : World} {A : Option Addr} {ad : Addr} {u v v1 : Value} {xs : List α}
theorem V_map (h : V d e W base ok v xs) (hF : ∀ A, F d W ok A xs.length xs → F d w1 ok' A xs.length xs) : V d e w1 base' ok' v xs := by
  obtain ⟨A, c, hv, hl, hf⟩ := h
  exact ⟨A, c, hv, hl, hF A hf⟩
theorem V_mk (hl : xs.length ≤ c) (hf : F d W ok A xs.length xs) : V d e W base ok (.slice A xs.length c) xs := ⟨A, c, rfl, hl, hf⟩
theorem V_slice (h : V d e W base ok v xs) : ∃ A c, v = .slice A xs.length c := by
  obtain ⟨A, c, hv, _⟩ := h
  exact ⟨A, c, hv⟩
theorem V_at (h : V d e W base ok (.slice A n c) xs) : n = xs.length ∧ n ≤ c ∧ F d W ok A xs.length xs := by
  obtain ⟨A', c', hv, hl, hf⟩ := h
  injection hv with ha hn hc
  subst ha; subst hc
  exact ⟨hn, by rw [hn]; exact hl, hf⟩
theorem V_reads' (h : V d e W base ok (.slice A n c) xs) : n = xs.length ∧ n ≤ c ∧ d.C W A xs.length xs := ⟨(V_at h).1, (V_at h).2.1, F_now (V_at h).2.2⟩
theorem V_F (h : V d e W base ok (.slice A n c) xs) : F d W ok A n xs := by
  obtain ⟨hn, _, hf⟩ := V_at h
  rw [hn]
  exact hf
theorem V_nil (d : Kd α) (e : Nat) (W : World) (base : Nat) (ok : Nat → Prop) : V d e W base ok (.slice none 0 0) [] := ⟨none, 0, rfl, Nat.le_refl _, F_nil d W ok⟩
theorem R_V (h : d.R e W base ok v xs) : V d e W base' ok v xs := by
  obtain ⟨A, c, rfl⟩ := R_slice h
  exact ⟨A, c, rfl, (R_reads' h).2.1, R_F h⟩
theorem Q_V (h : d.Q e W base ok v xs) : V d e W base' ok v xs := by
  obtain ⟨A, c, rfl, hl⟩ := Q_slice h
  exact ⟨A, c, rfl, hl, Q_F h⟩
theorem S_V (h : Kd.S d e W base ok v xs) : V d e W base' ok v xs := R_V (S_R h)
theorem N_V (h : N d e W base ok v xs) : V d e W base' ok v xs := by
  obtain ⟨A, c, rfl⟩ := N_slice h
  exact ⟨A, c, rfl, (N_reads' h).2.1, N_F h⟩
theorem V_mono (h : V d e W base ok v xs) (hok : ∀ k, ok k → ok' k) : V d e W base ok' v xs := V_map h (fun _ hf => F_mono hf hok)
theorem V_bound (h : V d e W base ok v xs) : V d e W base (fun k => ok k ∧ k < W.heap.size) v xs := V_map h (fun _ hf => F_bound hf)
theorem V_lower (h : V d e W base ok v xs) (_ : base' ≤ base) : V d e W base' ok v xs := h
theorem V_step (h : V d e W base ok v xs) (hm : ∀ k, ok k → k < W.heap.size → w1.heap[k]? = W.heap[k]?) : V d e w1 base ok v xs := V_map h (fun _ hf => F_step hf hm)
theorem V_below (h : V d e W base ok v xs) (hb : Below W.heap.size W w1) : V d e w1 base ok v xs := V_map h (fun _ hf => F_below hf hb)
theorem V_alloc (h : V d e W base ok v xs) (o : Obj) : V d e (W.alloc o) base ok v xs := V_map h (fun _ hf => F_alloc hf o)
theorem V_drew (h : V d e W base ok v xs) : V d e W.drew base ok v xs := V_map h (fun _ hf => F_drew hf)
theorem V_drewN (h : V d e W base ok v xs) (m : Nat) : V d e (W.drewN m) base ok v xs := V_map h (fun _ hf => F_drewN hf m)
theorem V_grown (h : V d e W base ok v xs) {row : Option Nat} (hg : W.grownBy w1 row) (hok : ∀ k, ok k → some k ≠ row) : V d e w1 base ok v xs := V_map h (fun _ hf => F_grown hf hg hok)
theorem V_far (h : V d e W base ok v xs) {p : Addr} (hok : ∀ k, ok k → k ≠ p.block) (u : Value) : V d e (W.setCell p u) base ok v xs := V_map h (fun _ hf => F_far hf hok u)
theorem V_keep (h : V d e W base ok v xs) (hk : KeepBut W w1 g none) (hok : ∀ k, ok k → k ≠ g) : V d e w1 base ok v xs := V_map h (fun _ hf => F_keep hf hk hok)
theorem V_kept (h : V d e W base ok v xs) (hk : Kept W w1 S) (hok : ∀ k, ok k → ¬ S k) : V d e w1 base ok v xs := V_map h (fun _ hf => F_kept hf hk hok)
theorem V_after (h : V d e W base (fun k => ok k ∧ some k ≠ u.ownBlock) v xs) (hg : W.grownBy w1 u.ownBlock) (hat : v1.ownBlock = u.ownBlock ∨ ∃ b, v1.ownBlock = some b ∧ W.heap.size ≤ b) : V d e w1 base (fun k => ok k ∧ some k ≠ v1.ownBlock) v xs := V_map h (fun _ hf => F_after hf hg hat)
theorem V_afterv (h : V d e W base (fun k => ok k ∧ some k ≠ v.ownBlock) u xs) (hg : W.grownBy w1 v.ownBlock) (hat : v1.ownBlock = v.ownBlock ∨ ∃ b, v1.ownBlock = some b ∧ W.heap.size ≤ b) : V d e w1 base (fun k => ok k ∧ some k ≠ v1.ownBlock) u xs := V_after h hg hat
theorem N_afterv (h : N d e W base (fun k => ok k ∧ some k ≠ v.ownBlock) u xs) (hg : W.grownBy w1 v.ownBlock) (hat : v1.ownBlock = v.ownBlock ∨ ∃ b, v1.ownBlock = some b ∧ W.heap.size ≤ b) : N d e w1 base (fun k => ok k ∧ some k ≠ v1.ownBlock) u xs := N_after h hg hat
theorem V_apart_nil (h : V d e W base ok v xs) : V d e W base (fun k => ok k ∧ some k ≠ (Value.slice none 0 0).ownBlock) v xs := V_map h (fun _ hf => F_apart_nil hf)
theorem V_elder' (h : V d e W base ok v xs) (hbase : ∀ k, u.ownBlock = some k → W.heap.size ≤ k) (hb : Below W.heap.size W w1) : V d e w1 base (fun k => ok k ∧ some k ≠ u.ownBlock) v xs := V_map h (fun _ hf => F_elder' hf hbase hb)
theorem V_elderB (h : V d e W base ok v xs) (a : Nat) (ha : W.heap.size ≤ a) : V d e W base (fun k => ok k ∧ k ≠ a) v xs := V_map h (fun _ hf => F_elderB hf a ha)
theorem V_old (h : V d e W base ok v xs) (hb : Below W.heap.size W w1) : V d e w1 base (fun k => ok k ∧ k < W.heap.size) v xs := V_map h (fun _ hf => F_old hf hb)
theorem V_oldK (h : V d e W base (fun k => ok k ∧ k ≠ g) v xs) (hk : KeepBut W w1 g none) : V d e w1 base (fun k => ok k ∧ k < W.heap.size) v xs := V_map h (fun _ hf => F_oldK hf hk)
theorem V_told (h : V d e w1 base (fun k => ok k ∧ k < N') v xs) (hbase : ∀ k, u.ownBlock = some k → N' ≤ k) : V d e w1 base (fun k => (ok k ∧ some k ≠ u.ownBlock) ∧ k < N') v xs := V_map h (fun _ hf => F_told hf hbase)
theorem V_keptB (h : V d e W base ok v xs) (hk : Kept W w1 S) (hne : ∀ k, ok k → ¬ S k) : V d e w1 base (fun k => ok k ∧ (¬ S k ∧ k < W.heap.size)) v xs :=
  V_kept (V_mono (V_bound h) (fun k hk => ⟨hk.1, hne k hk.1, hk.2⟩)) hk (fun _ hk => hk.2.1)
theorem N_keptB (h : N d e W base ok v xs) (hk : Kept W w1 S) (hne : ∀ k, ok k → ¬ S k) : N d e w1 base (fun k => ok k ∧ (¬ S k ∧ k < W.heap.size)) v xs :=
  N_kept (N_mono (N_bound h) (fun k hk => ⟨hk.1, hne k hk.1, hk.2⟩)) hk (fun _ hk => hk.2.1)
theorem V_get (h : V d e W base ok (.slice (some ad) n c) xs) (z : α) (i : Int) (h0 : 0 ≤ i) (h1 : i < n) :
    ∃ cs, cs.length = d.sz ∧ FK d W ok (xs.getD i.toNat z) cs ∧ ∀ j u, cs[j]? = some u → W.cell? (ad.add (i.toNat * d.sz + j)) = some u := by
  obtain ⟨ad', cs, he, hcl, hK, hcc, _⟩ := F_get (V_F h) z i h0 h1
  injection he with he
  subst he
  exact ⟨cs, hcl, hK, hcc⟩
theorem F_take (h : F d W ok A xs.length xs) (hm : m ≤ xs.length) : F d W ok A (xs.take m).length (xs.take m) := F_imp h (fun _ hC => C_take hC hm)
theorem F_cut (h : F d W ok A xs.length xs) (hm : m ≤ xs.length) (hc : xs.length ≤ c) : F d W ok (if c = m then A else A.map (·.add (m * d.sz))) (xs.drop m).length (xs.drop m) := F_imp h (fun _ hC => C_drop hC hm hc)
theorem F_mid (h : F d W ok A xs.length xs) (h1 : lo ≤ hi) (h2 : hi ≤ xs.length) (hc : xs.length ≤ c) : F d W ok (if c = lo then A else A.map (·.add (lo * d.sz))) ((xs.take hi).drop lo).length ((xs.take hi).drop lo) := F_imp h (fun _ hC => C_mid hC h1 h2 hc)
theorem FK_slice_open {l : List α} {cs : List Value} (h : FK (Kd.slice e d) W ok l cs) : ∃ A c, cs = [.slice A l.length c] ∧ l.length ≤ c ∧ F d W ok A l.length l := by
  obtain ⟨A, c, rfl, hl, _⟩ := FK_now h
  refine ⟨A, c, rfl, hl, fun W' hW => ?_⟩
  obtain ⟨A', c', he, _, g'⟩ := h W' hW
  injection he with he _
  injection he with ha _ _
  rw [ha]
  exact g'
theorem FK_slice_mk {l : List α} (hl : l.length ≤ c) (hf : F d W ok A l.length l) : FK (Kd.slice e d) W ok l [.slice A l.length c] := fun W' hW => ⟨A, c, rfl, hl, hf W' hW⟩
theorem foot_int {k : IntKind} {l : List Int} (h : (Kd.int k).C w (some ad) n l) (i : Int) (h0 : 0 ≤ i) (h1 : i < n) : w.cell? (ad.add i.toNat) = some (.int k (rd l i)) := by
  obtain ⟨ad', he, hc⟩ := at_int h i h0 h1
  injection he with he
  subst he
  exact hc
theorem foot_bool {l : List Bool} (h : Kd.bool.C w (some ad) n l) (i : Int) (h0 : 0 ≤ i) (h1 : i < n) : w.cell? (ad.add i.toNat) = some (.bool (rdOf false l i)) := by
  obtain ⟨ad', he, hc⟩ := at_bool h i h0 h1
  injection he with he
  subst he
  exact hc
theorem foot_string {l : List ByteArray} (h : Kd.string.C w (some ad) n l) (i : Int) (h0 : 0 ≤ i) (h1 : i < n) : w.cell? (ad.add i.toNat) = some (.string (rdOf ByteArray.empty l i)) := by
  obtain ⟨ad', he, hc⟩ := at_string h i h0 h1
  injection he with he
  subst he
  exact hc
theorem C_kept_keep {l : List α} (h : ∀ W', Kept w W' S → d.C W' A n l) (hk : Kept w W S) (hg : S g ∨ w.heap.size ≤ g) : ∀ W', KeepBut W W' g none → d.C W' A n l := fun W' k => h W' (hk.of_keep k hg)
theorem C_kept_ownV (h : V d e W base ok (.slice A n c) xs) (hok : ∀ k, ok k → ¬ S k) : ∀ W', Kept W W' S → d.C W' A n xs := fun W' hk => by
  have h2 := V_reads' (V_kept h hk hok)
  rw [h2.1]
  exact h2.2.2
theorem C_foot_ownV (h : V d e W base ok (.slice A n c) xs) (hok : ∀ k, ok k → k ≠ g) : ∀ W', KeepBut W W' g none → d.C W' A n xs := fun W' hk => by
  have h2 := V_reads' (V_keep h hk hok)
  rw [h2.1]
  exact h2.2.2
theorem R_newM {M : Nat → Prop} (h : d.R e w1 W.heap.size ok v xs) (hle : w.heap.size ≤ W.heap.size) (hM : ∀ k, w.heap.size ≤ k → M k) : d.R e w1 W.heap.size (fun k => M k ∧ ok k) v xs := R_mono (R_bound h) (fun k hk => ⟨hM k (Nat.le_trans hle hk.2.1), hk.1⟩)
theorem Q_newM {M : Nat → Prop} (h : d.Q e w1 W.heap.size ok v xs) (hle : w.heap.size ≤ W.heap.size) (hM : ∀ k, w.heap.size ≤ k → M k) : d.Q e w1 W.heap.size (fun k => M k ∧ ok k) v xs := Q_mono (Q_bound h) (fun k hk => ⟨hM k (Nat.le_trans hle hk.2.1), hk.1⟩)
theorem S_newM {M : Nat → Prop} (h : Kd.S d e w1 W.heap.size ok v xs) (hle : w.heap.size ≤ W.heap.size) (hM : ∀ k, w.heap.size ≤ k → M k) : Kd.S d e w1 W.heap.size (fun k => M k ∧ ok k) v xs := S_mono (S_bound h) (fun k hk => ⟨hM k (Nat.le_trans hle hk.2.1), hk.1⟩)
end
end Kd
end Go.Proofs.YtoefnmhmiphilaaGreatDoorW.PrintWords

namespace Go.Proofs.YtoefnmhmiphilaaGreatDoor.Tp
open Go Go.RowKit Go.Maps Go.Proofs.YtoefnmhmiphilaaGreatDoorW.PrintWords Go.Proofs.YtoefnmhmiphilaaGreatDoorW.PrintMore
attribute [local go_sem] max2_int min2_int max_two min_two
theorem eqA_nd (d : Nat) (w : World) (x0 y0 : Int) (x1 y1 : ByteArray) (x2 y2 : Int) (x3 y3 : Int) :
    (Op.equalIn (d + 2) 32 (.agg #[.int .i64 x0, .string x1, .int .i64 x2, .int .i64 x3]) (.agg #[.int .i64 y0, .string y1, .int .i64 y2, .int .i64 y3])).run Tryz.prog w = .ok (x0 == y0 && (x1.toList == y1.toList && (x2 == y2 && (x3 == y3)))) w := by
  refine eqA_of Tryz.underlying32 (by kernel_rfl) ?_
  refine eqf_cons (by rfl) (by go_simp; rfl) (by go_simp; rfl) (by go_simp) ?_
  refine eqf_cons (by rfl) (by go_simp; rfl) (by go_simp; rfl) (by go_simp) ?_
  refine eqf_cons (by rfl) (by go_simp; rfl) (by go_simp; rfl) (by go_simp) ?_
  exact eqf_last (by rfl) (by go_simp; rfl) (by go_simp; rfl) (by go_simp)
set_option maxHeartbeats 4000000 in
set_option maxRecDepth 100000 in
theorem may1_calls (W : World) (s : ByteArray) (e k : Int) (hz : s.size ≤ 4611686018427387904) (B : Bool) (hB : ((1 : Int) == 1 && (s.toList == (⟨#[]⟩ : ByteArray).toList && (e == 0 && (k == 0)))) = B) :
    Calls Tryz.prog 41 #[.agg #[.int .i64 1, .string s, .int .i64 e, .int .i64 k]] W fun e W' => e = .returned (.bool (B && texted s)) ∧ Below W.heap.size W W' := by
  have HE : ∀ w, (Op.equalIn 10000 32 (.agg #[.int .i64 1, .string s, .int .i64 e, .int .i64 k]) (.agg #[.int .i64 1, .string ⟨#[]⟩, .int .i64 0, .int .i64 0])).run Tryz.prog w = .ok B w := fun w => by rw [← hB]; exact eqA_nd 9998 w _ _ _ _ _ _ _ _
  have CT := Lib.hid (fun W => ptexted_calls W s hz)
  clear hB hz
  cases B with
  | true =>
    go_enter Tryz.func41, Tryz.ntmps41
    go_wp2_with (first | (go_at_call 68; (with_reducible refine (CT.out _).mono ?_); rintro e1 W1 ⟨rfl, hw⟩; have hw2 := hw.symm; clear hw; subst hw2))
    go_ret
    exact ⟨rfl, (by repeat (first | exact Below.refl _ _ | apply below_alloc | refine below_set ?_ ?_ | (simp; done) | (simp [World.alloc]; omega)))⟩
  | false =>
    go_enter Tryz.func41, Tryz.ntmps41
    go_wp2_with fail
    go_ret
    exact ⟨rfl, (by repeat (first | exact Below.refl _ _ | apply below_alloc | refine below_set ?_ ?_ | (simp; done) | (simp [World.alloc]; omega)))⟩
set_option maxHeartbeats 4000000 in
set_option maxRecDepth 100000 in
theorem may3_calls (W : World) (s : ByteArray) (e k : Int) (hz : s.size ≤ 4611686018427387904) (h1 : ¬ 999999 < e) (h2 : -999999 < e) (B : Bool) (hB : ((3 : Int) == 3 && (s.toList == (⟨#[]⟩ : ByteArray).toList && (e == e && (k == 0)))) = B) :
    Calls Tryz.prog 41 #[.agg #[.int .i64 3, .string s, .int .i64 e, .int .i64 k]] W fun e W' => e = .returned (.bool (B && texted s)) ∧ Below W.heap.size W W' := by
  have HE : ∀ w, (Op.equalIn 10000 32 (.agg #[.int .i64 3, .string s, .int .i64 e, .int .i64 k]) (.agg #[.int .i64 3, .string ⟨#[]⟩, .int .i64 e, .int .i64 0])).run Tryz.prog w = .ok B w := fun w => by rw [← hB]; exact eqA_nd 9998 w _ _ _ _ _ _ _ _
  have CT := Lib.hid (fun W => ptexted_calls W s hz)
  clear hB hz
  cases B with
  | true =>
    go_enter Tryz.func41, Tryz.ntmps41
    go_wp2_with (first | (go_at_call 68; (with_reducible refine (CT.out _).mono ?_); rintro e1 W1 ⟨rfl, hw⟩; have hw2 := hw.symm; clear hw; subst hw2))
    go_ret
    exact ⟨rfl, (by repeat (first | exact Below.refl _ _ | apply below_alloc | refine below_set ?_ ?_ | (simp; done) | (simp [World.alloc]; omega)))⟩
  | false =>
    go_enter Tryz.func41, Tryz.ntmps41
    go_wp2_with fail
    go_ret
    exact ⟨rfl, (by repeat (first | exact Below.refl _ _ | apply below_alloc | refine below_set ?_ ?_ | (simp; done) | (simp [World.alloc]; omega)))⟩
set_option maxHeartbeats 4000000 in
set_option maxRecDepth 100000 in
theorem may3b_calls (W : World) (s : ByteArray) (e k : Int) (hz : s.size ≤ 4611686018427387904) (h1 : 999999 < e) (B : Bool) (hB : ((3 : Int) == 3 && (s.toList == (⟨#[]⟩ : ByteArray).toList && (e == 999999 && (k == 0)))) = B) :
    Calls Tryz.prog 41 #[.agg #[.int .i64 3, .string s, .int .i64 e, .int .i64 k]] W fun e W' => e = .returned (.bool (B && texted s)) ∧ Below W.heap.size W W' := by
  have HE : ∀ w, (Op.equalIn 10000 32 (.agg #[.int .i64 3, .string s, .int .i64 e, .int .i64 k]) (.agg #[.int .i64 3, .string ⟨#[]⟩, .int .i64 999999, .int .i64 0])).run Tryz.prog w = .ok B w := fun w => by rw [← hB]; exact eqA_nd 9998 w _ _ _ _ _ _ _ _
  have CT := Lib.hid (fun W => ptexted_calls W s hz)
  clear hB hz
  cases B with
  | true =>
    go_enter Tryz.func41, Tryz.ntmps41
    go_wp2_with (first | (go_at_call 68; (with_reducible refine (CT.out _).mono ?_); rintro e1 W1 ⟨rfl, hw⟩; have hw2 := hw.symm; clear hw; subst hw2))
    go_ret
    exact ⟨rfl, (by repeat (first | exact Below.refl _ _ | apply below_alloc | refine below_set ?_ ?_ | (simp; done) | (simp [World.alloc]; omega)))⟩
  | false =>
    go_enter Tryz.func41, Tryz.ntmps41
    go_wp2_with fail
    go_ret
    exact ⟨rfl, (by repeat (first | exact Below.refl _ _ | apply below_alloc | refine below_set ?_ ?_ | (simp; done) | (simp [World.alloc]; omega)))⟩
set_option maxHeartbeats 4000000 in
set_option maxRecDepth 100000 in
theorem may3s_calls (W : World) (s : ByteArray) (e k : Int) (hz : s.size ≤ 4611686018427387904) (h1 : ¬ 999999 < e) (h2 : ¬ -999999 < e) (B : Bool) (hB : ((3 : Int) == 3 && (s.toList == (⟨#[]⟩ : ByteArray).toList && (e == (-999999) && (k == 0)))) = B) :
    Calls Tryz.prog 41 #[.agg #[.int .i64 3, .string s, .int .i64 e, .int .i64 k]] W fun e W' => e = .returned (.bool (B && texted s)) ∧ Below W.heap.size W W' := by
  have HE : ∀ w, (Op.equalIn 10000 32 (.agg #[.int .i64 3, .string s, .int .i64 e, .int .i64 k]) (.agg #[.int .i64 3, .string ⟨#[]⟩, .int .i64 (-999999), .int .i64 0])).run Tryz.prog w = .ok B w := fun w => by rw [← hB]; exact eqA_nd 9998 w _ _ _ _ _ _ _ _
  have CT := Lib.hid (fun W => ptexted_calls W s hz)
  clear hB hz
  cases B with
  | true =>
    go_enter Tryz.func41, Tryz.ntmps41
    go_wp2_with (first | (go_at_call 68; (with_reducible refine (CT.out _).mono ?_); rintro e1 W1 ⟨rfl, hw⟩; have hw2 := hw.symm; clear hw; subst hw2))
    go_ret
    exact ⟨rfl, (by repeat (first | exact Below.refl _ _ | apply below_alloc | refine below_set ?_ ?_ | (simp; done) | (simp [World.alloc]; omega)))⟩
  | false =>
    go_enter Tryz.func41, Tryz.ntmps41
    go_wp2_with fail
    go_ret
    exact ⟨rfl, (by repeat (first | exact Below.refl _ _ | apply below_alloc | refine below_set ?_ ?_ | (simp; done) | (simp [World.alloc]; omega)))⟩
set_option maxHeartbeats 4000000 in
set_option maxRecDepth 100000 in
theorem may4_calls (W : World) (s : ByteArray) (e k : Int) (hz : s.size ≤ 4611686018427387904) (B : Bool) (hB : ((4 : Int) == 4 && (s.toList == (s : ByteArray).toList && (e == 0 && (k == 0)))) = B) :
    Calls Tryz.prog 41 #[.agg #[.int .i64 4, .string s, .int .i64 e, .int .i64 k]] W fun e W' => e = .returned (.bool (B && texted s)) ∧ Below W.heap.size W W' := by
  have HE : ∀ w, (Op.equalIn 10000 32 (.agg #[.int .i64 4, .string s, .int .i64 e, .int .i64 k]) (.agg #[.int .i64 4, .string s, .int .i64 0, .int .i64 0])).run Tryz.prog w = .ok B w := fun w => by rw [← hB]; exact eqA_nd 9998 w _ _ _ _ _ _ _ _
  have CT := Lib.hid (fun W => ptexted_calls W s hz)
  clear hB hz
  cases B with
  | true =>
    go_enter Tryz.func41, Tryz.ntmps41
    go_wp2_with (first | (go_at_call 68; (with_reducible refine (CT.out _).mono ?_); rintro e1 W1 ⟨rfl, hw⟩; have hw2 := hw.symm; clear hw; subst hw2))
    go_ret
    exact ⟨rfl, (by repeat (first | exact Below.refl _ _ | apply below_alloc | refine below_set ?_ ?_ | (simp; done) | (simp [World.alloc]; omega)))⟩
  | false =>
    go_enter Tryz.func41, Tryz.ntmps41
    go_wp2_with fail
    go_ret
    exact ⟨rfl, (by repeat (first | exact Below.refl _ _ | apply below_alloc | refine below_set ?_ ?_ | (simp; done) | (simp [World.alloc]; omega)))⟩
set_option maxHeartbeats 4000000 in
set_option maxRecDepth 100000 in
theorem may5_calls (W : World) (s : ByteArray) (e k : Int) (hz : s.size ≤ 4611686018427387904) (B : Bool) (hB : ((5 : Int) == 5 && (s.toList == (⟨#[]⟩ : ByteArray).toList && (e == 0 && (k == k)))) = B) :
    Calls Tryz.prog 41 #[.agg #[.int .i64 5, .string s, .int .i64 e, .int .i64 k]] W fun e W' => e = .returned (.bool (B && texted s)) ∧ Below W.heap.size W W' := by
  have HE : ∀ w, (Op.equalIn 10000 32 (.agg #[.int .i64 5, .string s, .int .i64 e, .int .i64 k]) (.agg #[.int .i64 5, .string ⟨#[]⟩, .int .i64 0, .int .i64 k])).run Tryz.prog w = .ok B w := fun w => by rw [← hB]; exact eqA_nd 9998 w _ _ _ _ _ _ _ _
  have CT := Lib.hid (fun W => ptexted_calls W s hz)
  clear hB hz
  cases B with
  | true =>
    go_enter Tryz.func41, Tryz.ntmps41
    go_wp2_with (first | (go_at_call 68; (with_reducible refine (CT.out _).mono ?_); rintro e1 W1 ⟨rfl, hw⟩; have hw2 := hw.symm; clear hw; subst hw2))
    go_ret
    exact ⟨rfl, (by repeat (first | exact Below.refl _ _ | apply below_alloc | refine below_set ?_ ?_ | (simp; done) | (simp [World.alloc]; omega)))⟩
  | false =>
    go_enter Tryz.func41, Tryz.ntmps41
    go_wp2_with fail
    go_ret
    exact ⟨rfl, (by repeat (first | exact Below.refl _ _ | apply below_alloc | refine below_set ?_ ?_ | (simp; done) | (simp [World.alloc]; omega)))⟩
set_option maxHeartbeats 4000000 in
set_option maxRecDepth 100000 in
theorem may6_calls (W : World) (s : ByteArray) (e k : Int) (hz : s.size ≤ 4611686018427387904) (B : Bool) (hB : ((6 : Int) == 6 && (s.toList == (s : ByteArray).toList && (e == 0 && (k == 1)))) = B) :
    Calls Tryz.prog 41 #[.agg #[.int .i64 6, .string s, .int .i64 e, .int .i64 k]] W fun e W' => e = .returned (.bool (B && texted s)) ∧ Below W.heap.size W W' := by
  have HE : ∀ w, (Op.equalIn 10000 32 (.agg #[.int .i64 6, .string s, .int .i64 e, .int .i64 k]) (.agg #[.int .i64 6, .string s, .int .i64 0, .int .i64 1])).run Tryz.prog w = .ok B w := fun w => by rw [← hB]; exact eqA_nd 9998 w _ _ _ _ _ _ _ _
  have CT := Lib.hid (fun W => ptexted_calls W s hz)
  clear hB hz
  cases B with
  | true =>
    go_enter Tryz.func41, Tryz.ntmps41
    go_wp2_with (first | (go_at_call 68; (with_reducible refine (CT.out _).mono ?_); rintro e1 W1 ⟨rfl, hw⟩; have hw2 := hw.symm; clear hw; subst hw2))
    go_ret
    exact ⟨rfl, (by repeat (first | exact Below.refl _ _ | apply below_alloc | refine below_set ?_ ?_ | (simp; done) | (simp [World.alloc]; omega)))⟩
  | false =>
    go_enter Tryz.func41, Tryz.ntmps41
    go_wp2_with fail
    go_ret
    exact ⟨rfl, (by repeat (first | exact Below.refl _ _ | apply below_alloc | refine below_set ?_ ?_ | (simp; done) | (simp [World.alloc]; omega)))⟩
set_option maxHeartbeats 4000000 in
set_option maxRecDepth 100000 in
theorem may7_calls (W : World) (s : ByteArray) (e k : Int) (hz : s.size ≤ 4611686018427387904) (B : Bool) (hB : ((7 : Int) == 7 && (s.toList == (⟨#[]⟩ : ByteArray).toList && (e == 0 && (k == k)))) = B) :
    Calls Tryz.prog 41 #[.agg #[.int .i64 7, .string s, .int .i64 e, .int .i64 k]] W fun e W' => e = .returned (.bool (B && texted s)) ∧ Below W.heap.size W W' := by
  have HE : ∀ w, (Op.equalIn 10000 32 (.agg #[.int .i64 7, .string s, .int .i64 e, .int .i64 k]) (.agg #[.int .i64 7, .string ⟨#[]⟩, .int .i64 0, .int .i64 k])).run Tryz.prog w = .ok B w := fun w => by rw [← hB]; exact eqA_nd 9998 w _ _ _ _ _ _ _ _
  have CT := Lib.hid (fun W => ptexted_calls W s hz)
  clear hB hz
  cases B with
  | true =>
    go_enter Tryz.func41, Tryz.ntmps41
    go_wp2_with (first | (go_at_call 68; (with_reducible refine (CT.out _).mono ?_); rintro e1 W1 ⟨rfl, hw⟩; have hw2 := hw.symm; clear hw; subst hw2))
    go_ret
    exact ⟨rfl, (by repeat (first | exact Below.refl _ _ | apply below_alloc | refine below_set ?_ ?_ | (simp; done) | (simp [World.alloc]; omega)))⟩
  | false =>
    go_enter Tryz.func41, Tryz.ntmps41
    go_wp2_with fail
    go_ret
    exact ⟨rfl, (by repeat (first | exact Below.refl _ _ | apply below_alloc | refine below_set ?_ ?_ | (simp; done) | (simp [World.alloc]; omega)))⟩
end Go.Proofs.YtoefnmhmiphilaaGreatDoor.Tp

namespace Go.Proofs.YtoefnmhmiphilaaGreatDoor.Tp
open Go Go.RowKit Go.Maps Go.Proofs.YtoefnmhmiphilaaGreatDoorW.PrintWords
theorem and_one (e : Int) : bits .and .i64 e 1 = 0 ∨ bits .and .i64 e 1 = 1 := by
  unfold bits
  simp only
  have h : (BitVec.ofInt IntKind.i64.bits e &&& BitVec.ofInt IntKind.i64.bits 1).toNat < 2 := by
    rw [BitVec.toNat_and, show (BitVec.ofInt IntKind.i64.bits 1).toNat = 1 from by decide, Nat.and_one_is_mod]
    omega
  generalize (BitVec.ofInt IntKind.i64.bits e &&& BitVec.ofInt IntKind.i64.bits 1).toNat = m at h
  match m, h with
  | 0, _ => exact .inl (by decide)
  | 1, _ => exact .inr (by decide)
set_option maxHeartbeats 4000000 in
set_option maxRecDepth 100000 in
theorem may2_calls (W : World) (s : ByteArray) (e k : Int) (hz : s.size ≤ 4611686018427387904) (m : Int) (hm : bits .and .i64 e 1 = m) (B : Bool) (hB : ((2 : Int) == 2 && (s.toList == (⟨#[]⟩ : ByteArray).toList && (e == m && (k == 0)))) = B) :
    Calls Tryz.prog 41 #[.agg #[.int .i64 2, .string s, .int .i64 e, .int .i64 k]] W fun e W' => e = .returned (.bool (B && texted s)) ∧ Below W.heap.size W W' := by
  have HE : ∀ w, (Op.equalIn 10000 32 (.agg #[.int .i64 2, .string s, .int .i64 e, .int .i64 k]) (.agg #[.int .i64 2, .string ⟨#[]⟩, .int .i64 m, .int .i64 0])).run Tryz.prog w = .ok B w := fun w => by rw [← hB]; exact eqA_nd 9998 w _ _ _ _ _ _ _ _
  have CT := Lib.hid (fun W => ptexted_calls W s hz)
  clear hB hz
  cases B with
  | true =>
    go_enter Tryz.func41, Tryz.ntmps41
    go_wp2_with (first | (go_at_call 68; (with_reducible refine (CT.out _).mono ?_); rintro e1 W1 ⟨rfl, hw⟩; have hw2 := hw.symm; clear hw; subst hw2))
    go_ret
    exact ⟨rfl, (by repeat (first | exact Below.refl _ _ | apply below_alloc | refine below_set ?_ ?_ | (simp; done) | (simp [World.alloc]; omega)))⟩
  | false =>
    go_enter Tryz.func41, Tryz.ntmps41
    go_wp2_with fail
    go_ret
    exact ⟨rfl, (by repeat (first | exact Below.refl _ _ | apply below_alloc | refine below_set ?_ ?_ | (simp; done) | (simp [World.alloc]; omega)))⟩
set_option maxHeartbeats 4000000 in
set_option maxRecDepth 100000 in
theorem may0_calls (W : World) (a : Int) (s : ByteArray) (e k : Int) (h : a ≠ 1 ∧ a ≠ 2 ∧ a ≠ 3 ∧ a ≠ 4 ∧ a ≠ 5 ∧ a ≠ 6 ∧ a ≠ 7) :
    Calls Tryz.prog 41 #[.agg #[.int .i64 a, .string s, .int .i64 e, .int .i64 k]] W fun e W' => e = .returned (.bool false) ∧ Below W.heap.size W W' := by
  have e1 : (a == 1) = false := by simp [h]
  have e2 : (a == 2) = false := by simp [h]
  have e3 : (a == 3) = false := by simp [h]
  have e4 : (a == 4) = false := by simp [h]
  have e5 : (a == 5) = false := by simp [h]
  have e6 : (a == 6) = false := by simp [h]
  have e7 : (a == 7) = false := by simp [h]
  clear h
  go_enter Tryz.func41, Tryz.ntmps41
  go_wp2_with fail
  go_ret
  exact ⟨rfl, (by repeat (first | exact Below.refl _ _ | apply below_alloc | refine below_set ?_ ?_ | (simp; done) | (simp [World.alloc]; omega)))⟩
theorem list_nil (s : ByteArray) : (s.toList == (⟨#[]⟩ : ByteArray).toList) = decide (s.data.toList = []) := bytes_eqD
theorem pmay_calls (W : World) (n : Nd) (hz : n.f1.size ≤ 4611686018427387904) :
    Calls Tryz.prog 41 #[aggN n] W fun e W' => e = .returned (.bool (may n)) ∧ Below W.heap.size W W' := by
  obtain ⟨a, s, e, k⟩ := n
  simp only at hz
  unfold may
  by_cases h1 : a = 1
  · subst h1
    exact may1_calls W s e k hz _ (by rw [list_nil]; by_cases q1 : s.data.toList = [] <;> by_cases q2 : e = 0 <;> by_cases q3 : k = 0 <;> simp [mayK, q1, q2, q3])
  by_cases h2 : a = 2
  · subst h2
    refine may2_calls W s e k hz _ rfl _ ?_
    have key : (e == bits .and .i64 e 1) = decide (e = 0 ∨ e = 1) := by
      by_cases q0 : e = 0
      · subst q0; decide
      · by_cases q1 : e = 1
        · subst q1; decide
        · rw [decide_eq_false (by simp [q0, q1])]
          rcases and_one e with h | h <;> rw [h] <;> simp [q0, q1]
    rw [key, list_nil]
    by_cases q1 : s.data.toList = [] <;> by_cases q2 : e = 0 ∨ e = 1 <;> by_cases q3 : k = 0 <;> simp [mayK, q1, q2, q3]
  by_cases h3 : a = 3
  · subst h3
    by_cases g1 : 999999 < e
    · refine may3b_calls W s e k hz g1 _ ?_
      rw [list_nil]
      have : (e == 999999) = false := by simp; omega
      rw [this]
      simp [mayK]; omega
    · by_cases g2 : -999999 < e
      · refine may3_calls W s e k hz g1 g2 _ ?_
        rw [list_nil]
        have q4 : e ≤ 999999 := by omega
        have q5 : -999999 ≤ e := by omega
        by_cases q1 : s.data.toList = [] <;> by_cases q3 : k = 0 <;> simp [mayK, q1, q3, q4, q5]
      · refine may3s_calls W s e k hz g1 g2 _ ?_
        rw [list_nil]
        have q4 : e ≤ 999999 := by omega
        have q5 : (e == -999999) = decide (-999999 ≤ e) := by
          by_cases q : e = -999999
          · subst q; decide
          · rw [decide_eq_false (by omega)]; simp [q]
        rw [q5]
        by_cases q1 : s.data.toList = [] <;> by_cases q3 : k = 0 <;> by_cases q6 : -999999 ≤ e <;> simp [mayK, q1, q3, q4, q6]
  by_cases h4 : a = 4
  · subst h4
    exact may4_calls W s e k hz _ (by by_cases q2 : e = 0 <;> by_cases q3 : k = 0 <;> simp [mayK, q2, q3])
  by_cases h5 : a = 5
  · subst h5
    exact may5_calls W s e k hz _ (by rw [list_nil]; by_cases q1 : s.data.toList = [] <;> by_cases q2 : e = 0 <;> simp [mayK, q1, q2])
  by_cases h6 : a = 6
  · subst h6
    exact may6_calls W s e k hz _ (by by_cases q2 : e = 0 <;> by_cases q3 : k = 1 <;> simp [mayK, q2, q3])
  by_cases h7 : a = 7
  · subst h7
    exact may7_calls W s e k hz _ (by rw [list_nil]; by_cases q1 : s.data.toList = [] <;> by_cases q2 : e = 0 <;> simp [mayK, q1, q2])
  · have : mayK ⟨a, s, e, k⟩ = false := by simp [mayK, h1, h2, h3, h4, h5, h6, h7]
    rw [this]
    exact may0_calls W a s e k ⟨h1, h2, h3, h4, h5, h6, h7⟩
end Go.Proofs.YtoefnmhmiphilaaGreatDoor.Tp

namespace Go.Proofs.YtoefnmhmiphilaaGreatDoor.Tp
open Go Go.RowKit Go.Maps Go.ChangeMaps Go.WideMaps Go.Proofs.YtoefnmhmiphilaaGreatDoorW.PrintWords
structure Sl where
  A : Option Addr
  n : Nat
  c : Nat
abbrev Tv := Tr × Sl
def cellsV (x : Tv) : List Value := cellsN x.1.nd ++ [.slice x.2.A x.2.n x.2.c, .int .i64 (deep x.1 : Int)]
def encVs (l : List Tv) : List Value := l.flatMap cellsV
theorem cellsV_len (x : Tv) : (cellsV x).length = 6 := by simp [cellsV, cellsN]
theorem encVs_len (l : List Tv) : (encVs l).length = l.length * 6 := by
  induction l with
  | nil => rfl
  | cons x l ih => unfold encVs at ih ⊢; rw [List.flatMap_cons, List.length_append, ih, cellsV_len, List.length_cons]; omega
theorem encVs_get (o : List Tv) (k : Nat) (hk : k < o.length) (j : Nat) (hj : j < 6) : (encVs o)[k * 6 + j]? = (cellsV o[k])[j]? := by
  induction o generalizing k with
  | nil => simp at hk
  | cons n o ih =>
    unfold encVs
    rw [List.flatMap_cons]
    cases k with
    | zero => rw [List.getElem?_append_left (by rw [cellsV_len]; omega)]; simp
    | succ k =>
      rw [List.getElem?_append_right (by rw [cellsV_len]; omega), cellsV_len]
      have := ih k (by simpa using hk)
      unfold encVs at this
      simp only [List.getElem_cons_succ]
      rw [← this]
      congr 1
      omega
def Vr (W : World) (b off : Nat) (o : List Tv) : Prop := ∀ i, i < o.length * 6 → W.cell? ⟨b, off + i, none⟩ = (encVs o)[i]?
theorem Vr.at_ {W : World} {b off : Nat} {o : List Tv} (h : Vr W b off o) (k : Nat) (hk : k < o.length) : W.cell? ⟨b, off + k * 6, none⟩ = some (.int .i64 o[k].1.nd.f0) ∧ W.cell? ⟨b, off + k * 6 + 1, none⟩ = some (.string o[k].1.nd.f1) ∧ W.cell? ⟨b, off + k * 6 + 2, none⟩ = some (.int .i64 o[k].1.nd.f2) ∧ W.cell? ⟨b, off + k * 6 + 3, none⟩ = some (.int .i64 o[k].1.nd.f3) ∧ W.cell? ⟨b, off + k * 6 + 4, none⟩ = some (.slice o[k].2.A o[k].2.n o[k].2.c) ∧ W.cell? ⟨b, off + k * 6 + 5, none⟩ = some (.int .i64 (deep o[k].1 : Int)) :=
  ⟨(h (k * 6) (by omega)).trans (encVs_get o k hk 0 (by omega)), (h (k * 6 + 1) (by omega)).trans (encVs_get o k hk 1 (by omega)), (h (k * 6 + 2) (by omega)).trans (encVs_get o k hk 2 (by omega)), (h (k * 6 + 3) (by omega)).trans (encVs_get o k hk 3 (by omega)), (h (k * 6 + 4) (by omega)).trans (encVs_get o k hk 4 (by omega)), (h (k * 6 + 5) (by omega)).trans (encVs_get o k hk 5 (by omega))⟩
theorem Vr.lt {W : World} {b off : Nat} {o : List Tv} (h : Vr W b off o) (h0 : 0 < o.length) : b < W.heap.size := by
  have := (h.at_ 0 h0).1
  rcases Nat.lt_or_ge b W.heap.size with h' | h'
  · exact h'
  · simp [World.cell?, Array.getElem?_eq_none h'] at this
theorem Vr.below {W W' : World} {b off : Nat} {o : List Tv} (h : Vr W b off o) {B : Nat} (hb : Below B W W') (hB : W.heap.size ≤ B) : Vr W' b off o := by
  rcases Nat.eq_zero_or_pos o.length with h0 | h0
  · intro i hi; omega
  · intro i hi; rw [← h i hi]; exact hb.cell (p := ⟨b, off + i, none⟩) (Nat.lt_of_lt_of_le (h.lt h0) hB)
def Vv (W : World) (A : Option Addr) (o : List Tv) : Prop := o = [] ∨ ∃ b off, A = some ⟨b, off, none⟩ ∧ Vr W b off o
theorem Vv.below {W W' : World} {A : Option Addr} {o : List Tv} (h : Vv W A o) {B : Nat} (hb : Below B W W') (hB : W.heap.size ≤ B) : Vv W' A o := by
  rcases h with h | ⟨b, off, e, h⟩
  · exact .inl h
  · exact .inr ⟨b, off, e, h.below hb hB⟩
theorem Vv.some {W : World} {A : Option Addr} {o : List Tv} (h : Vv W A o) (h0 : 0 < o.length) : ∃ b off, A = .some ⟨b, off, none⟩ ∧ Vr W b off o := by
  rcases h with rfl | h
  · simp at h0
  · exact h
theorem law2 : Keyed Tryz.prog 9 := string_keyed Tryz.underlying9
theorem zeroB2 (w : World) : (zeroValue 4).run Tryz.prog w = .ok (.bool false) w := by kernel_rfl
def KeysB (B : Bool) (W : World) (mb : Nat) (ks : List (List UInt8)) : Prop :=
  ∃ D : DataW Unit, W.ownsMap Tryz.prog 9 (plainElem Tryz.prog 4) mb ks.length D ∧ ∀ key, D.atKey (.string key) (.lit (.bool false)) = .lit (.bool (B && decide (key ∈ ks)))
theorem KeysB.made (B : Bool) (w : World) : KeysB B (w.alloc (.map #[] 0)) w.heap.size [] := ⟨.map [], World.ownsMap_made _ _ _ _, fun _ => by simp; rfl⟩
theorem KeysB.same {B : Bool} {W W' : World} {mb : Nat} {ks : List (List UInt8)} (h : KeysB B W mb ks) (hb : W'.heap[mb]? = W.heap[mb]?) : KeysB B W' mb ks := by
  obtain ⟨D, ⟨es, clock, h1, r⟩, h2⟩ := h
  exact ⟨D, ⟨es, clock, hb.trans h1, r⟩, h2⟩
theorem KeysB.lt {B : Bool} {W : World} {mb : Nat} {ks : List (List UInt8)} (h : KeysB B W mb ks) : mb < W.heap.size := by obtain ⟨D, h1, _⟩ := h; exact h1.lt
theorem plainElem_bool_inv2 {P : Program} {e : TypeId} (he : P.underlying e = some .bool) {v : Value} {z : DataW Unit × List MemPlace} (h : plainElem P e v = some z) : ∃ x, v = .bool x ∧ z = (.lit (.bool x), []) := by
  unfold plainElem at h
  rw [he] at h
  cases v <;> simp at h
  exact ⟨_, rfl, h.symm⟩
theorem KeysB.look {B : Bool} {W : World} {mb : Nat} {ks : List (List UInt8)} (h : KeysB B W mb ks) (s : ByteArray) (hs : s.size ≤ maxLen) : (Instr.lookup 93 (.map (some mb)) (.string s) false).run Tryz.prog W = .ok (.bool (B && decide (s.data.toList ∈ ks))) W := by
  obtain ⟨D, h1, h2⟩ := h
  obtain ⟨v, ps, hrun, hv⟩ := h1.lookup law2 Tryz.underlying93 (zeroB2 W) (plainElem_bool Tryz.underlying4 false) (keyOf_string_mk Tryz.underlying9 hs)
  obtain ⟨x, rfl, hx⟩ := plainElem_bool_inv2 Tryz.underlying4 hv
  simp only [Prod.mk.injEq] at hx
  rw [h2] at hx
  have hx1 : (B && decide (s.data.toList ∈ ks)) = x := congrArg (fun d : DataW Unit => match d with | .lit (.bool b) => b | _ => false) hx.1
  rw [hrun, ← hx1]
theorem KeysB.put {B : Bool} {W : World} {mb : Nat} {ks : List (List UInt8)} (h : KeysB B W mb ks) (s : ByteArray) (hs : s.size ≤ maxLen) (hn : ks.length < maxLen) :
    ∃ W', (Instr.mapUpdate 93 (.map (some mb)) (.string s) (.bool B)).run Tryz.prog W = .ok () W' ∧ KeysB B W' mb (ks ++ [s.data.toList]) ∧ W.grownBy W' (some mb) := by
  obtain ⟨D, h1, h2⟩ := h
  have hM := h1.isMap
  obtain ⟨W', hrun, hown, hg⟩ := h1.update law2 Tryz.underlying93 hn (keyOf_string_mk Tryz.underlying9 hs) (plainElem_bool Tryz.underlying4 B)
  refine ⟨W', hrun, ⟨D.put (.string s.data.toList) (.lit (.bool B)), ?_, fun key => ?_⟩, hg⟩
  · rw [List.length_append]; exact hown
  · by_cases hk : key = s.data.toList
    · subst hk
      rw [atKey_put_same hM (show WideAt.IsKeyLit (.string s.data.toList) from trivial)]
      simp
    · rw [atKey_put_other (fun e => hk (by injection e)), h2]
      simp [hk]
end Go.Proofs.YtoefnmhmiphilaaGreatDoor.Tp

namespace Go.Proofs.YtoefnmhmiphilaaGreatDoor.Tp
open Go Go.RowKit Go.Maps Go.ChangeMaps Go.WideMaps Go.Proofs.YtoefnmhmiphilaaGreatDoorW.PrintWords
theorem fits_split (n : Nd) (a b : List Tr) (h : fits n (a ++ b) = true) : fits n a = true := by
  simp only [fits, kinds, keysOk, Bool.and_eq_true, Bool.or_eq_true, decide_eq_true_eq, List.all_append, List.map_append] at h ⊢
  exact ⟨h.1.1, h.2.imp id (fun g => (List.nodup_append.1 g).1)⟩
theorem fits_not {n : Nd} {b : List Tr} {j : Nat} (h : fits n (b.take j) = false) : fits n b = false := by
  cases hf : fits n b with
  | false => rfl
  | true => have := fits_split n (b.take j) (b.drop j) (by rw [List.take_append_drop]; exact hf); rw [this] at h; cases h
theorem fits_snoc (n : Nd) (a : List Tr) (t : Tr) : fits n (a ++ [t]) = (fits n a && ((t.nd.f0 == 6) == (n.f0 == 7)) && (n.f0 != 7 || !decide (t.key ∈ a.map Tr.key))) := by
  unfold fits kinds keysOk
  rw [List.all_append, List.map_append]
  have h : decide ((a.map Tr.key ++ [t].map Tr.key).Nodup) = (decide (a.map Tr.key).Nodup && !decide (t.key ∈ a.map Tr.key)) := by
    by_cases h1 : (a.map Tr.key).Nodup <;> by_cases h2 : t.key ∈ a.map Tr.key
    · simp only [h1, h2, decide_true, Bool.not_true, Bool.and_false, decide_eq_false_iff_not]
      intro h
      exact (List.nodup_append.1 h).2.2 _ h2 _ (by simp) rfl
    · simp only [h1, h2, decide_true, decide_false, Bool.not_false, Bool.and_true, decide_eq_true_eq]
      refine List.nodup_append.2 ⟨h1, by simp, ?_⟩
      intro x hx y hy e
      simp at hy; subst hy; subst e; exact h2 hx
    · simp only [h1, h2, decide_false, Bool.false_and, decide_eq_false_iff_not]
      exact fun h => h1 (List.nodup_append.1 h).1
    · simp only [h1, decide_false, Bool.false_and, decide_eq_false_iff_not]
      exact fun h => h1 (List.nodup_append.1 h).1
  rw [h]
  simp only [List.all_cons, List.all_nil, Bool.and_true]
  cases (a.all fun t => (t.nd.f0 == 6) == (n.f0 == 7)) <;> cases ((t.nd.f0 == 6) == (n.f0 == 7)) <;> cases (n.f0 != 7) <;> cases decide (a.map Tr.key).Nodup <;> cases decide (t.key ∈ a.map Tr.key) <;> rfl
set_option maxHeartbeats 16000000 in
set_option maxRecDepth 100000 in
theorem fits_calls (W : World) (n : Nd) (A : Option Addr) (m c : Nat) (l : List Tv) (hlen : l.length = m) (hV : Vv W A l) (hm : m ≤ 4294967296) (htx : ∀ x ∈ l, x.1.nd.f1.size ≤ 1048576) :
    Calls Tryz.prog 42 #[aggN n, .slice A m c] W fun e W' => e = .returned (.bool (fits n (l.map Prod.fst))) ∧ Below W.heap.size W W' := by
  obtain ⟨a, s, e, k⟩ := n
  obtain ⟨b, hb⟩ : ∃ b : List Tr, l.map Prod.fst = b := ⟨_, rfl⟩
  have HBL := Lib.hid (show b.length = m by rw [← hb, List.length_map, hlen])
  have HBG := Lib.hid (show ∀ j (h : j < l.length) (h2 : j < b.length), b[j]'h2 = (l[j]'h).1 by intro j h h2; subst hb; exact List.getElem_map _)
  rw [hb]
  obtain ⟨W0, hW0⟩ : ∃ W0, (W.alloc (.cells #[.int .i64 a, .string s, .int .i64 e, .int .i64 k] 32)).alloc (.map #[] 0) = W0 := ⟨_, rfl⟩
  obtain ⟨B, hBB⟩ : ∃ B, (a == 7) = B := ⟨_, rfl⟩
  have hs1 : (W.alloc (.cells #[.int .i64 a, .string s, .int .i64 e, .int .i64 k] 32)).heap.size = W.heap.size + 1 := Array.size_push _
  have BL0 : Below W.heap.size W W0 := by rw [← hW0]; exact ((Below.refl _ W).alloc (Nat.le_refl _) _).alloc (by rw [hs1]; omega) _
  have F0 : W0.heap[W.heap.size]? = some (.cells #[.int .i64 a, .string s, .int .i64 e, .int .i64 k] 32 (0, 0)) := by
    rw [← hW0]
    have h1 := ((Below.refl (W.heap.size + 1) (W.alloc (.cells #[.int .i64 a, .string s, .int .i64 e, .int .i64 k] 32))).alloc (by rw [hs1]; exact Nat.le_refl _) (.map #[] 0)).block W.heap.size (by omega)
    exact h1.trans (blk_new W _)
  have K0 : KeysB B W0 (W.heap.size + 1) [] := by
    have := KeysB.made B (W.alloc (.cells #[.int .i64 a, .string s, .int .i64 e, .int .i64 k] 32))
    rw [hs1, hW0] at this; exact this
  have HB0 := Lib.hid BL0
  have HF0 := Lib.hid F0
  have HK0 := Lib.hid K0
  have HW0 := Lib.hid hW0
  have HBB := Lib.hid hBB
  have HLEN := Lib.hid hlen
  have HV := Lib.hid hV
  have HTX := Lib.hid htx
  have hmm := @run_makeMap Tryz.prog
  clear hb hlen hV htx hs1 BL0 F0 K0 hW0 hBB
  go_enter Tryz.func42, Tryz.ntmps42
  go_wp2_with fail
  go_loopg [12] m (fun g v12 W' => ∃ j : Nat, v12 = .int .i64 (j : Int) ∧ Hid (g = m - j) ∧ Hid (j ≤ m) ∧ Hid (fits ⟨a, s, e, k⟩ (b.take j) = true) ∧ Hid (KeysB B W' (W.heap.size + 1) ((b.take j).map Tr.key)) ∧ Hid (Below W.heap.size W W') ∧ Hid (W'.heap[W.heap.size]? = some (.cells #[.int .i64 a, .string s, .int .i64 e, .int .i64 k] 32 (0, 0))))
  case atStart => exact ⟨0, rfl, Lib.hid rfl, Lib.hid (Nat.zero_le _), Lib.hid (by rw [List.take_zero]; simp [fits, kinds, keysOk]), Lib.hid (by rw [HW0.out]; exact HK0.out), Lib.hid (by rw [HW0.out]; exact HB0.out), Lib.hid (by rw [HW0.out]; exact HF0.out)⟩
  case round =>
    obtain ⟨j, rfl, HG, HJ, HF, HK, HB, HC⟩ := hrel
    by_cases hj : j < m
    · have d2 : decide ((j : Int) < (m : Int)) = true := by simp; omega
      have hjm2 : (j : Int) < (m : Int) := by omega
      have hjl : j < l.length := by rw [HLEN.out]; exact hj
      have hjb : j < b.length := by rw [HBL.out]; exact hj
      obtain ⟨b', off', hbe, hns⟩ := (HV.out.below HB.out (Nat.le_refl _)).some (by omega)
      subst hbe
      obtain ⟨x0, x1, x2, x3, x4, x5⟩ := hns.at_ j hjl
      have hbj := HBG.out j hjl hjb
      have htj := HTX.out _ (List.getElem_mem hjl)
      obtain ⟨⟨t, sA, sn, sc⟩, hx⟩ : ∃ x, l[j]'hjl = x := ⟨_, rfl⟩
      rw [hx] at x0 x1 x2 x3 x4 x5 hbj htj
      simp only at x0 x1 x2 x3 x4 x5 hbj htj
      obtain ⟨tn, tb⟩ := t
      simp only [Tr.nd] at x0 x1 x2 x3 x4 x5 htj
      obtain ⟨f0, f1, f2, f3⟩ := tn
      simp only at x0 x1 x2 x3 x4 x5 htj
      have hst := fits_snoc ⟨a, s, e, k⟩ (b.take j) b[j]
      rw [← List.take_succ_eq_append_getElem hjb, HF.out, Bool.true_and, hbj] at hst
      obtain ⟨O, hO⟩ : ∃ O : Obj, .cells #[.int .i64 f0, .string f1, .int .i64 f2, .int .i64 f3, .slice sA sn sc, .int .i64 (deep (.mk ⟨f0, f1, f2, f3⟩ tb) : Int)] 48 = O := ⟨_, rfl⟩
      have hw0 := HB.out.size
      have y0 : (wr.alloc O).cell? ⟨W.heap.size, 0, none⟩ = some (.int .i64 a) := by
        have h1 : (wr.alloc O).heap[W.heap.size]? = wr.heap[W.heap.size]? := ((Below.refl (wr.heap.size) wr).alloc (Nat.le_refl _) O).block _ (blk_lt HC.out)
        exact (blk_cell (h1.trans HC.out) 0).trans rfl
      have ybl : (wr.alloc O).heap[W.heap.size]? = some (.cells #[.int .i64 a, .string s, .int .i64 e, .int .i64 k] 32 (0, 0)) := (((Below.refl (wr.heap.size) wr).alloc (Nat.le_refl _) O).block _ (blk_lt HC.out)).trans HC.out
      have y00 := ybl
      have hk0 : KeysB B (wr.alloc O) (W.heap.size + 1) ((b.take j).map Tr.key) := HK.out.same (((Below.refl (wr.heap.size) wr).alloc (Nat.le_refl _) O).block _ HK.out.lt)
      have HLK := hk0.look f1 (by unfold maxLen; omega)
      have hput := hk0.put f1 (by unfold maxLen; omega) (by rw [List.length_map, List.length_take]; unfold maxLen; omega)
      have hbb := HBB.out
      rw [hbb, show (a != 7) = !B by rw [bne, hbb]] at hst
      clear ybl
      cases B with
      | true =>
        cases h6 : (f0 == 6) with
        | false =>
          have HR := Lib.hid (show fits ⟨a, s, e, k⟩ b = false from fits_not (j := j + 1) (by rw [hst]; simp [Tr.nd, h6]))
          clear hst hbj HLK hk0 hns
          subst hO
          go_wp2_with fail
          go_ret
          exact ⟨by rw [HR.out]; rfl, HB.out.alloc hw0 _⟩
        | true =>
          cases hin : decide (f1.data.toList ∈ (b.take j).map Tr.key) with
          | true =>
            rw [hin] at HLK
            have hlk : (Instr.lookup 93 (.map (some (W.heap.size + 1))) (.string f1) false).run Tryz.prog (wr.alloc O) = .ok (.bool true) (wr.alloc O) := HLK
            have HR := Lib.hid (show fits ⟨a, s, e, k⟩ b = false from fits_not (j := j + 1) (by rw [hst]; show (((f0 == 6) == true) && (!true || !decide (f1.data.toList ∈ (b.take j).map Tr.key))) = false; rw [h6, hin]; rfl))
            clear hst hbj HLK hk0 hns
            subst hO
            go_wp2_with fail
            go_ret
            exact ⟨by rw [HR.out]; rfl, HB.out.alloc hw0 _⟩
          | false =>
            rw [hin] at HLK
            have hlk : (Instr.lookup 93 (.map (some (W.heap.size + 1))) (.string f1) false).run Tryz.prog (wr.alloc O) = .ok (.bool false) (wr.alloc O) := HLK
            clear HLK hk0
            have HR := Lib.hid (show fits ⟨a, s, e, k⟩ (b.take (j + 1)) = true by rw [hst]; show (((f0 == 6) == true) && (!true || !decide (f1.data.toList ∈ (b.take j).map Tr.key))) = true; rw [h6, hin]; rfl)
            have HKS := Lib.hid (show (b.take (j + 1)).map Tr.key = (b.take j).map Tr.key ++ [f1.data.toList] by rw [List.take_succ_eq_append_getElem hjb, hbj, List.map_append]; rfl)
            have HPUT := Lib.hid hput
            clear hst hbj hns hput
            subst hO
            go_wp2_with (first | (at_mapUpdate; obtain ⟨W3, hrun, hk3, hg3⟩ := HPUT.out; refine update_step rfl (.tmp 35) (.tmp 38) (.tmp 39) 93 rfl rfl rfl rfl hrun ?_; have K3 := Lib.hid hk3; have G3 := Lib.hid hg3; clear hrun hk3 hg3))
            go_roundg (m - (j + 1))
            case rel => exact ⟨j + 1, rfl, Lib.hid rfl, Lib.hid hj, HR, Lib.hid (by rw [HKS.out]; exact K3.out), Lib.hid ((HB.out.alloc hw0 _).grown G3.out (Nat.le_trans hw0 (by show _ ≤ (wr.heap.push _).size; rw [Array.size_push]; omega)) (fun _ h => by cases h; omega)), Lib.hid ((G3.out.block _ (Nat.lt_of_le_of_lt hw0 (by show _ < (wr.heap.push _).size; rw [Array.size_push]; omega)) (by simp)).trans y00)⟩
            case measure => have := HG.out; omega
      | false =>
        cases h6 : (f0 == 6) with
        | true =>
          have HR := Lib.hid (show fits ⟨a, s, e, k⟩ b = false from fits_not (j := j + 1) (by rw [hst]; simp [Tr.nd, h6]))
          clear hst hbj HLK hk0 hns
          subst hO
          go_wp2_with fail
          go_ret
          exact ⟨by rw [HR.out]; rfl, HB.out.alloc hw0 _⟩
        | false =>
          clear HLK hk0
          have HR := Lib.hid (show fits ⟨a, s, e, k⟩ (b.take (j + 1)) = true by rw [hst]; show (((f0 == 6) == false) && (!false || !decide (f1.data.toList ∈ (b.take j).map Tr.key))) = true; rw [h6]; rfl)
          have HKS := Lib.hid (show (b.take (j + 1)).map Tr.key = (b.take j).map Tr.key ++ [f1.data.toList] by rw [List.take_succ_eq_append_getElem hjb, hbj, List.map_append]; rfl)
          have HPUT := Lib.hid hput
          clear hst hbj hns hput
          subst hO
          go_wp2_with (first | (at_mapUpdate; obtain ⟨W3, hrun, hk3, hg3⟩ := HPUT.out; refine update_step rfl (.tmp 35) (.tmp 38) (.tmp 39) 93 rfl rfl rfl rfl hrun ?_; have K3 := Lib.hid hk3; have G3 := Lib.hid hg3; clear hrun hk3 hg3))
          go_roundg (m - (j + 1))
          case rel => exact ⟨j + 1, rfl, Lib.hid rfl, Lib.hid hj, HR, Lib.hid (by rw [HKS.out]; exact K3.out), Lib.hid ((HB.out.alloc hw0 _).grown G3.out (Nat.le_trans hw0 (by show _ ≤ (wr.heap.push _).size; rw [Array.size_push]; omega)) (fun _ h => by cases h; omega)), Lib.hid ((G3.out.block _ (Nat.lt_of_le_of_lt hw0 (by show _ < (wr.heap.push _).size; rw [Array.size_push]; omega)) (by simp)).trans y00)⟩
          case measure => have := HG.out; omega
    · have d2 : decide ((j : Int) < (m : Int)) = false := by simp; omega
      have hS := HF.out
      rw [List.take_of_length_le (by rw [HBL.out]; omega)] at hS
      have HS := Lib.hid hS
      clear hS
      go_wp2_with fail
      go_ret
      exact ⟨by rw [HS.out]; rfl, HB.out⟩
end Go.Proofs.YtoefnmhmiphilaaGreatDoor.Tp

namespace Go.Proofs.YtoefnmhmiphilaaGreatDoor.Tp
open Go Go.RowKit Go.Maps Go.Proofs.YtoefnmhmiphilaaGreatDoorW.PrintWords
theorem info_val : (Tryz.prog.info? 48).map (fun i => (i.zero, i.size, i.bytes)) = some (some (.agg #[.int .i64 0, .string ⟨#[]⟩, .int .i64 0, .int .i64 0, .slice none 0 0, .int .i64 0]), 6, 72) := by kernel_rfl
theorem one_vals (l : List Tv) : ∀ u ∈ encVs l, u.oneCell' = true := by
  intro u hu
  unfold encVs at hu
  obtain ⟨nd, _, h2⟩ := List.mem_flatMap.1 hu
  simp [cellsV, cellsN] at h2
  rcases h2 with rfl | rfl | rfl | rfl | rfl | rfl <;> rfl
theorem q_nil (w : World) (a : Option Addr) (n c : Nat) : (binOp .eql 46 (.slice a n c) (.slice none 0 0)).run Tryz.prog w = .ok (.bool a.isNone) w := Lib.run_eql_slice_nil w _ _ a n c 0 0 Tryz.underlying46
set_option maxHeartbeats 4000000 in
set_option maxRecDepth 100000 in
theorem clone_calls (W : World) (A : Option Addr) (n c : Nat) (l : List Tv) (hlen : l.length = n) (hV : Vv W A l) (hn : n ≤ 4294967296) (hc0 : A = none → n = 0) :
    Calls Tryz.prog 67 #[.slice A n c] W fun e W' => ∃ A' c', e = .returned (.slice A' n c') ∧ W'.ownsRow W.heap.size 48 6 (.slice A' n c') n (encVs l) ∧ Below W.heap.size W W' := by
  have q0 := q_nil
  cases A with
  | none =>
    have h0 := hc0 rfl
    subst h0
    have hl := List.eq_nil_of_length_eq_zero hlen
    subst hl
    clear hV hlen hc0
    go_enter Tryz.func67, Tryz.ntmps67
    go_wp2_with fail
    go_ret
    exact ⟨none, 0, rfl, own_nil _ _ _ _, Below.refl _ _⟩
  | some ad =>
    obtain ⟨i0, hi, hzz⟩ := Option.map_eq_some_iff.1 info_val
    simp only [Prod.mk.injEq] at hzz
    obtain ⟨hz0, hz1, hz2⟩ := hzz
    have hone := one_vals l
    have hel := encVs_len l
    rw [hlen] at hel
    have hcell : Aside (∀ j u, (encVs l)[j]? = some u → W.cell? (ad.add j) = some u) := by
      intro j u hj
      have hj' : j < l.length * 6 := by
        have := (List.getElem?_eq_some_iff.1 hj).1
        rwa [encVs_len] at this
      obtain ⟨b, off, he, hns⟩ := hV.some (by omega)
      cases he
      have := hns j hj'
      rw [hj] at this
      unfold Addr.add
      split
      · rename_i h0; subst h0; exact this
      · exact this
    have HONE := Lib.hid hone
    have HEL := Lib.hid hel
    clear hV hlen hc0 hone hel
    go_enter Tryz.func67, Tryz.ntmps67
    go_wp2_with (at_builtin; refine wpList_append_own_at _ rfl _ _ 46 rfl W.heap.size 48 i0 _ 6 72 Tryz.underlying46 hi hz0 hz1 hz2 rfl (by decide) _ _ _ rfl (World.ownsRow_made W #[] 0 (Nat.le_refl _) (Nat.zero_le _) (by simp)) ad n c (encVs l) rfl HEL.out ?qc2 HONE.out ?qc4 ?qc5 ?qc6 ?_)
    case qc2 =>
      intro j u hj
      exact Lib.cell?_alloc_some _ (hcell.out j u hj)
    case qc4 => simp only [maxLen]; omega
    case qc5 => omega
    case qc6 => simp
    intro v' w1 hown hgrow hnil _
    go_wp2
    go_ret
    have hown2 : w1.ownsRow W.heap.size 48 6 v' n (encVs l) := hown
    obtain ⟨A', c', rfl⟩ := own_slice hown2
    exact ⟨A', c', rfl, hown2, ((Below.refl _ W).alloc (Nat.le_refl _) _).grown hgrow (by simp) (by intro k hk; simp [Value.ownBlock] at hk; omega)⟩
end Go.Proofs.YtoefnmhmiphilaaGreatDoor.Tp

namespace Go.Proofs.YtoefnmhmiphilaaGreatDoor.Tp
open Go Go.RowKit Go.Maps Go.Proofs.YtoefnmhmiphilaaGreatDoorW.PrintWords
structure Stk (W : World) (p base : Nat) (A : Option Addr) (n c : Nat) (l : List Tv) : Prop where
  cell : W.heap[p]? = some (.cells #[.slice A n c] 68 (0, 0))
  own : W.ownsRow base 48 6 (.slice A n c) n (encVs l)
  len : l.length = n
theorem encVs_take (l : List Tv) (k : Nat) : encVs (l.take k) = (encVs l).take (k * 6) := by
  have h : encVs l = encVs (l.take k) ++ encVs (l.drop k) := by unfold encVs; rw [← List.flatMap_append, List.take_append_drop]
  by_cases hk : k ≤ l.length
  · rw [h, List.take_left' (by rw [encVs_len, List.length_take, Nat.min_eq_left hk])]
  · rw [List.take_of_length_le (l := l) (by omega), List.take_of_length_le (l := encVs l) (by rw [encVs_len]; omega)]
theorem own_cut {W : World} {base n c : Nat} {A : Option Addr} {l : List Tv} (h : W.ownsRow base 48 6 (.slice A n c) n (encVs l)) {k : Nat} (hk : k ≤ n) : W.ownsRow base 48 6 (.slice A k c) k (encVs (l.take k)) := by
  have hl := h.1
  rw [encVs_len] at hl
  refine ⟨by rw [encVs_len, List.length_take]; omega, ?_⟩
  rcases h.2 with ⟨h1, h2⟩ | ⟨g, cap, cur, h4, h5, h6, h7, h8, h9, h10⟩
  · left
    subst h2
    have hk0 : k = 0 := by omega
    subst hk0
    exact ⟨h1, rfl⟩
  · right
    injection h4 with a1 a2 a3
    subst a1; subst a3
    refine ⟨g, c, cur, rfl, h5, h6, by omega, h8, h9, ?_⟩
    rw [encVs_take, ← h10, List.take_take, Nat.min_eq_left (by omega)]
theorem Vr.drop {W : World} {b off : Nat} {l : List Tv} (h : Vr W b off l) (k : Nat) (hk : k ≤ l.length) : Vr W b (off + k * 6) (l.drop k) := fun i hi => by
  rw [List.length_drop] at hi
  have h1 := h (k * 6 + i) (by omega)
  rw [← Nat.add_assoc] at h1
  rw [h1]
  have e : encVs l = encVs (l.take k) ++ encVs (l.drop k) := by unfold encVs; rw [← List.flatMap_append, List.take_append_drop]
  rw [e, List.getElem?_append_right (by rw [encVs_len, List.length_take]; omega), encVs_len, List.length_take]
  congr 1; omega
theorem own_Vv {W : World} {base n c : Nat} {A : Option Addr} {l : List Tv} (h : W.ownsRow base 48 6 (.slice A n c) n (encVs l)) : Vv W A l := by
  have hl := h.1
  rw [encVs_len] at hl
  rcases h.2 with ⟨h1, h2⟩ | ⟨g, cap, cur, h4, h5, h6, h7, h8, h9, h10⟩
  · left; exact List.eq_nil_of_length_eq_zero (by omega)
  · right
    injection h4 with a1 a2 a3
    refine ⟨g, 0, a1, fun i hi => ?_⟩
    rw [Nat.zero_add, Lib.cell_of_heap h6, ← h10, List.getElem?_take_of_lt (by omega), Array.getElem?_toList]
set_option maxHeartbeats 4000000 in
set_option maxRecDepth 100000 in
theorem pop_no (W : World) (p base : Nat) (A : Option Addr) (n c : Nat) (l : List Tv) (h : Stk W p base A n c l) (k : Int) (hk : k < 0 ∨ (n : Int) < k) :
    Calls Tryz.prog 40 #[.pointer (some ⟨p, 0, none⟩), .int .i64 k] W fun e W' => e = .returned (.tuple #[.slice none 0 0, .bool false]) ∧ W' = W := by
  have x0 := (blk_cell h.cell 0).trans rfl
  clear h
  by_cases h1 : k < 0
  · have d1 : decide (k < 0) = true := decide_eq_true h1
    go_enter Tryz.func40, Tryz.ntmps40
    go_wp2_with fail
    go_ret2
    exact ⟨rfl, rfl⟩
  · have d1 : decide (k < 0) = false := decide_eq_false h1
    have d2 : decide ((n : Int) < k) = true := decide_eq_true (by omega)
    go_enter Tryz.func40, Tryz.ntmps40
    go_wp2_with fail
    go_ret2
    exact ⟨rfl, rfl⟩
end Go.Proofs.YtoefnmhmiphilaaGreatDoor.Tp

namespace Go.Proofs.YtoefnmhmiphilaaGreatDoor.Tp
open Go Go.RowKit Go.Maps Go.Proofs.YtoefnmhmiphilaaGreatDoorW.PrintWords
set_option maxHeartbeats 4000000 in
set_option maxRecDepth 100000 in
theorem pop_some (W : World) (p base g : Nat) (n c : Nat) (l : List Tv) (h : Stk W p base (some ⟨g, 0, none⟩) n c l) (k q : Nat) (hk : q + k = n) (hc : c ≠ q) (hnc : n ≤ c) (hn : n ≤ 4294967296) :
    Calls Tryz.prog 40 #[.pointer (some ⟨p, 0, none⟩), .int .i64 (k : Int)] W fun e W' => ∃ W1 A' c', Below W.heap.size W W1 ∧ e = .returned (.tuple #[.slice A' k c', .bool true]) ∧ W1.ownsRow W.heap.size 48 6 (.slice A' k c') k (encVs (l.drop q)) ∧ W' = W1.setCell ⟨p, 0, none⟩ (.slice (some ⟨g, 0, none⟩) q c) := by
  have x0 := (blk_cell h.cell 0).trans rfl
  have hvr : Vr W g (0 + q * 6) (l.drop q) := by
    rcases own_Vv h.own with h0 | ⟨b, off, e, hv⟩
    · intro i hi; rw [h0] at hi; simp at hi
    · cases e; exact hv.drop q (by rw [h.len]; omega)
  have CC := Lib.hid (clone_calls W (some ⟨g, q * 6, none⟩) k (c - q) (l.drop q) (by rw [List.length_drop, h.len]; omega) (.inr ⟨_, _, rfl, by rw [Nat.zero_add] at hvr; exact hvr⟩) (by omega) (fun e => by cases e))
  have HC := Lib.hid h.cell
  have d1 : decide ((k : Int) < 0) = false := by simp
  have d2 : decide ((n : Int) < (k : Int)) = false := by simp; omega
  have e1 : (n : Int) - (k : Int) = (q : Int) := by omega
  have hqc : q ≤ c := by omega
  have hqn : q ≤ n := by omega
  have hnq : n - q = k := by omega
  have hcq : ¬ c = q := hc
  clear h hvr hc hk
  go_enter Tryz.func40, Tryz.ntmps40
  go_wp2_with (first | (go_at_call 67; (with_reducible refine CC.out.mono ?_); rintro e1 W1 ⟨A', c', rfl, ho, hb⟩; have O1 := Lib.hid ho; have B1 := Lib.hid hb; have x1 := (blk_cell (blk_below HC.out hb) 0).trans rfl; have z1 := blk_frozen (blk_below HC.out hb) 0; clear ho hb))
  go_ret2
  exact ⟨W1, A', c', B1.out, rfl, O1.out, rfl⟩
set_option maxHeartbeats 4000000 in
set_option maxRecDepth 100000 in
theorem pop_full (W : World) (p base g : Nat) (n : Nat) (l : List Tv) (h : Stk W p base (some ⟨g, 0, none⟩) n n l) (hn : n ≤ 4294967296) :
    Calls Tryz.prog 40 #[.pointer (some ⟨p, 0, none⟩), .int .i64 0] W fun e W' => ∃ W1 A' c', Below W.heap.size W W1 ∧ e = .returned (.tuple #[.slice A' 0 c', .bool true]) ∧ W1.ownsRow W.heap.size 48 6 (.slice A' 0 c') 0 (encVs []) ∧ W' = W1.setCell ⟨p, 0, none⟩ (.slice (some ⟨g, 0, none⟩) n n) := by
  have x0 := (blk_cell h.cell 0).trans rfl
  have CC := Lib.hid (clone_calls W (some ⟨g, 0, none⟩) 0 0 [] rfl (.inl rfl) (by omega) (fun e => by cases e))
  have HC := Lib.hid h.cell
  have d2 : decide ((n : Int) < 0) = false := decide_eq_false (by omega)
  clear h
  go_enter Tryz.func40, Tryz.ntmps40
  go_wp2_with (first | (go_at_call 67; (with_reducible refine CC.out.mono ?_); rintro e1 W1 ⟨A', c', rfl, ho, hb⟩; have O1 := Lib.hid ho; have B1 := Lib.hid hb; have x1 := (blk_cell (blk_below HC.out hb) 0).trans rfl; have z1 := blk_frozen (blk_below HC.out hb) 0; clear ho hb))
  go_ret2
  exact ⟨W1, A', c', B1.out, rfl, O1.out, rfl⟩
set_option maxHeartbeats 4000000 in
set_option maxRecDepth 100000 in
theorem pop_nil (W : World) (p base : Nat) (h : Stk W p base none 0 0 []) :
    Calls Tryz.prog 40 #[.pointer (some ⟨p, 0, none⟩), .int .i64 0] W fun e W' => ∃ W1 A' c', Below W.heap.size W W1 ∧ e = .returned (.tuple #[.slice A' 0 c', .bool true]) ∧ W1.ownsRow W.heap.size 48 6 (.slice A' 0 c') 0 (encVs []) ∧ W' = W1.setCell ⟨p, 0, none⟩ (.slice none 0 0) := by
  have x0 := (blk_cell h.cell 0).trans rfl
  have CC := Lib.hid (clone_calls W none 0 0 [] rfl (.inl rfl) (by omega) (fun _ => rfl))
  have HC := Lib.hid h.cell
  clear h
  go_enter Tryz.func40, Tryz.ntmps40
  go_wp2_with (first | (go_at_call 67; (with_reducible refine CC.out.mono ?_); rintro e1 W1 ⟨A', c', rfl, ho, hb⟩; have O1 := Lib.hid ho; have B1 := Lib.hid hb; have x1 := (blk_cell (blk_below HC.out hb) 0).trans rfl; have z1 := blk_frozen (blk_below HC.out hb) 0; clear ho hb))
  go_ret2
  exact ⟨W1, A', c', B1.out, rfl, O1.out, rfl⟩
theorem pop_yes (W : World) (p base : Nat) (A : Option Addr) (n c : Nat) (l : List Tv) (h : Stk W p base A n c l) (k q : Nat) (hk : q + k = n) (hn : n ≤ 4294967296) :
    Calls Tryz.prog 40 #[.pointer (some ⟨p, 0, none⟩), .int .i64 (k : Int)] W fun e W' => ∃ W1 A' c', Below W.heap.size W W1 ∧ e = .returned (.tuple #[.slice A' k c', .bool true]) ∧ W1.ownsRow W.heap.size 48 6 (.slice A' k c') k (encVs (l.drop q)) ∧ W' = W1.setCell ⟨p, 0, none⟩ (.slice A q c) := by
  have hl := h.len
  have h2 := h.own.2
  rcases h2 with ⟨h1, h0⟩ | ⟨g, cap, cur, h4, _, _, hcap, _⟩
  · injection h1 with a1 a2 a3
    subst a1; subst a2; subst a3
    have hk0 : k = 0 := by omega
    have hq0 : q = 0 := by omega
    subst hk0; subst hq0
    have hl0 := List.eq_nil_of_length_eq_zero hl
    subst hl0
    exact pop_nil W p base h
  · injection h4 with a1 a2 a3
    subst a1; subst a3
    by_cases hc : c = q
    · have hk0 : k = 0 := by omega
      have hqn : q = n := by omega
      subst hk0; subst hqn; subst hc
      rw [List.drop_of_length_le (by omega)]
      exact pop_full W p base g c l h hn
    · exact pop_some W p base g n c l h k q hk hc hcap hn
end Go.Proofs.YtoefnmhmiphilaaGreatDoor.Tp

namespace Go.Proofs.YtoefnmhmiphilaaGreatDoor.Tp
open Go Go.RowKit Go.Maps Go.Proofs.YtoefnmhmiphilaaGreatDoorW.PrintWords
inductive Mt where
  | mk (n : Nd) (s : Sl) (kids : List Mt) : Mt
def Mt.nd : Mt → Nd
  | .mk n _ _ => n
def Mt.sl : Mt → Sl
  | .mk _ s _ => s
def Mt.kids : Mt → List Mt
  | .mk _ _ b => b
theorem Mt.ind {P : Mt → Prop} (h : ∀ n s b, (∀ t ∈ b, P t) → P (.mk n s b)) : ∀ t, P t
  | .mk n s b => h n s b (fun t _ => Mt.ind h t)
mutual
def Mt.tr : Mt → Tr
  | .mk n _ b => .mk n (trs b)
def trs : List Mt → List Tr
  | [] => []
  | m :: l => m.tr :: trs l
end
theorem trs_map : ∀ l : List Mt, trs l = l.map Mt.tr
  | [] => rfl
  | m :: l => by simp only [trs, List.map_cons, trs_map l]
def Mt.tv (m : Mt) : Tv := (m.tr, m.sl)
theorem tv_fst (l : List Mt) : (l.map Mt.tv).map Prod.fst = trs l := by rw [trs_map, List.map_map]; rfl
mutual
def Mt.bl : Mt → List Nat
  | .mk _ s b => (Value.slice s.A s.n s.c).ownBlock.toList ++ bls b
def bls : List Mt → List Nat
  | [] => []
  | m :: l => m.bl ++ bls l
end
theorem bls_append : ∀ a b : List Mt, bls (a ++ b) = bls a ++ bls b
  | [], _ => rfl
  | m :: a, b => by simp only [List.cons_append, bls, bls_append a b, List.append_assoc]
theorem bls_mem : ∀ {l : List Mt} {m : Mt}, m ∈ l → ∀ k ∈ m.bl, k ∈ bls l
  | x :: l, m, h, k, hk => by
    rw [bls, List.mem_append]
    rcases List.mem_cons.1 h with rfl | h
    · exact .inl hk
    · exact .inr (bls_mem h k hk)
theorem bls_iff : ∀ {l : List Mt} {k : Nat}, k ∈ bls l ↔ ∃ m ∈ l, k ∈ m.bl
  | [], k => by simp [bls]
  | x :: l, k => by rw [bls, List.mem_append, bls_iff]; simp
mutual
def Hold (W : World) (base : Nat) : Mt → Prop
  | .mk _ s b => (s.n = b.length ∧ W.ownsRow base 48 6 (.slice s.A s.n s.c) s.n (encVs (b.map Mt.tv))) ∧ Holds W base b
def Holds (W : World) (base : Nat) : List Mt → Prop
  | [] => True
  | m :: l => Hold W base m ∧ Holds W base l
end
theorem Holds_all {W : World} {base : Nat} : ∀ {l : List Mt}, Holds W base l ↔ ∀ m ∈ l, Hold W base m
  | [] => by simp [Holds]
  | x :: l => by rw [Holds, Holds_all]; simp
theorem Hold.mk_ {W : World} {base : Nat} {n : Nd} {s : Sl} {b : List Mt} (h1 : s.n = b.length) (h2 : W.ownsRow base 48 6 (.slice s.A s.n s.c) s.n (encVs (b.map Mt.tv))) (h3 : ∀ m ∈ b, Hold W base m) : Hold W base (.mk n s b) := by
  rw [Hold]; exact ⟨⟨h1, h2⟩, Holds_all.2 h3⟩
theorem Hold.out_ {W : World} {base : Nat} {n : Nd} {s : Sl} {b : List Mt} (h : Hold W base (.mk n s b)) : s.n = b.length ∧ W.ownsRow base 48 6 (.slice s.A s.n s.c) s.n (encVs (b.map Mt.tv)) ∧ ∀ m ∈ b, Hold W base m := by
  rw [Hold] at h; exact ⟨h.1.1, h.1.2, Holds_all.1 h.2⟩
theorem Hold.move {W W' : World} {base : Nat} : ∀ m : Mt, Hold W base m → (∀ k ∈ m.bl, W'.heap[k]? = W.heap[k]?) → Hold W' base m := by
  apply Mt.ind
  intro n s b ih h hk
  obtain ⟨h1, h2, h3⟩ := h.out_
  rw [Mt.bl] at hk
  refine Hold.mk_ h1 (own_move h2 (fun k e => hk k ?_)) (fun m hm => ih m hm (h3 m hm) (fun k hk' => hk k ?_))
  · rw [e]; simp
  · exact List.mem_append.2 (.inr (bls_mem hm k hk'))
theorem Hold.lt {W : World} {base : Nat} : ∀ m : Mt, Hold W base m → ∀ k ∈ m.bl, base ≤ k ∧ k < W.heap.size ∧ ∃ cells, W.heap[k]? = some (.cells cells 48 (0, 0)) := by
  apply Mt.ind
  intro n s b ih h k hk
  obtain ⟨h1, h2, h3⟩ := h.out_
  rw [Mt.bl] at hk
  rcases List.mem_append.1 hk with hk | hk
  · rw [Option.mem_toList] at hk
    exact ⟨own_base h2 k hk, own_lt h2 k hk, own_typed h2 k hk⟩
  · obtain ⟨m, hm, hk⟩ := bls_iff.1 hk
    exact ih m hm (h3 m hm) k hk
theorem Holds.lt {W : World} {base : Nat} {l : List Mt} (h : Holds W base l) : ∀ k ∈ bls l, base ≤ k ∧ k < W.heap.size ∧ ∃ cells, W.heap[k]? = some (.cells cells 48 (0, 0)) := fun k hk => by
  obtain ⟨m, hm, hk⟩ := bls_iff.1 hk
  exact Hold.lt m (Holds_all.1 h m hm) k hk
theorem Holds.move {W W' : World} {base : Nat} {l : List Mt} (h : Holds W base l) (hk : ∀ k ∈ bls l, W'.heap[k]? = W.heap[k]?) : Holds W' base l :=
  Holds_all.2 fun m hm => Hold.move m (Holds_all.1 h m hm) (fun k hk' => hk k (bls_mem hm k hk'))
theorem Hold.below {W W' : World} {base : Nat} {m : Mt} (h : Hold W base m) (hb : Below W.heap.size W W') : Hold W' base m := Hold.move m h (fun k hk => hb.block k (Hold.lt m h k hk).2.1)
theorem Holds.below {W W' : World} {base : Nat} {l : List Mt} (h : Holds W base l) (hb : Below W.heap.size W W') : Holds W' base l := h.move (fun k hk => hb.block k (h.lt k hk).2.1)
theorem Hold.low {W : World} {base base' : Nat} (hb : base' ≤ base) : ∀ m : Mt, Hold W base m → Hold W base' m := by
  apply Mt.ind
  intro n s b ih h
  obtain ⟨h1, h2, h3⟩ := h.out_
  exact Hold.mk_ h1 (own_lower h2 hb) (fun m hm => ih m hm (h3 m hm))
theorem tv_cells (m : Mt) : cellsV m.tv = cellsN m.nd ++ [.slice m.sl.A m.sl.n m.sl.c, .int .i64 (deep m.tr : Int)] := by
  obtain ⟨n, s, b⟩ := m; rfl
theorem tr_nd (m : Mt) : m.tr.nd = m.nd := by obtain ⟨n, s, b⟩ := m; rw [Mt.tr]; rfl
theorem tr_kids (m : Mt) : m.tr.kids = trs m.kids := by obtain ⟨n, s, b⟩ := m; rw [Mt.tr]; rfl
theorem deeps_append : ∀ a b : List Tr, deeps (a ++ b) = max (deeps a) (deeps b)
  | [], b => by simp [deeps]
  | t :: a, b => by simp only [List.cons_append, deeps, deeps_append a b, Nat.max_assoc]
mutual
theorem deepL : ∀ t : Tr, deep t ≤ (flat t).length
  | .mk n b => by rw [deep, flat, List.length_append]; have := deepsL b; split <;> simp <;> omega
theorem deepsL : ∀ l : List Tr, deeps l ≤ (flats l).length
  | [] => by simp [deeps]
  | t :: l => by rw [deeps, flats, List.length_append]; have := deepL t; have := deepsL l; omega
end
theorem nd_flat (t : Tr) : t.nd ∈ flat t := by obtain ⟨n, b⟩ := t; rw [flat]; simp [Tr.nd]
theorem nd_flats : ∀ {l : List Tr} {t : Tr}, t ∈ l → ∀ x ∈ flat t, x ∈ flats l
  | u :: l, t, h, x, hx => by
    rw [flats, List.mem_append]
    rcases List.mem_cons.1 h with rfl | h
    · exact .inl hx
    · exact .inr (nd_flats h x hx)
theorem trs_length (l : List Mt) : (trs l).length = l.length := by rw [trs_map, List.length_map]
theorem trs_take (l : List Mt) (k : Nat) : trs (l.take k) = (trs l).take k := by rw [trs_map, trs_map, List.map_take]
theorem trs_drop (l : List Mt) (k : Nat) : trs (l.drop k) = (trs l).drop k := by rw [trs_map, trs_map, List.map_drop]
theorem trs_append (a b : List Mt) : trs (a ++ b) = trs a ++ trs b := by rw [trs_map, trs_map, trs_map, List.map_append]
theorem length_flats : ∀ l : List Tr, l.length ≤ (flats l).length
  | [] => by simp
  | t :: l => by rw [flats, List.length_append, List.length_cons]; have := length_flats l; have := List.length_pos_iff.2 (flat_ne t); omega
end Go.Proofs.YtoefnmhmiphilaaGreatDoor.Tp

namespace Go.Proofs.YtoefnmhmiphilaaGreatDoor.Tp
open Go Go.RowKit Go.Maps Go.Proofs.YtoefnmhmiphilaaGreatDoorW.PrintWords
abbrev boxV (f0 : Int) (f1 : ByteArray) (f2 f3 : Int) (sA : Option Addr) (sn sc : Nat) (d : Int) : Obj := .cells #[.int .i64 f0, .string f1, .int .i64 f2, .int .i64 f3, .slice sA sn sc, .int .i64 d] 48
theorem own_six {W : World} {base g n c : Nat} {xs : List Value} {x0 x1 x2 x3 x4 x5 z0 z1 z2 z3 z4 z5 : Value} (h : W.ownsRow base 48 6 (.slice (some ⟨g, 0, none⟩) (n + 1) c) (n + 1) (xs ++ [z0, z1, z2, z3, z4, z5])) (hx : xs.length = n * 6) :
    ((((((W.setCell ⟨g, n * 6, none⟩ x0).setCell ⟨g, n * 6 + 1, none⟩ x1).setCell ⟨g, n * 6 + 2, none⟩ x2).setCell ⟨g, n * 6 + 3, none⟩ x3).setCell ⟨g, n * 6 + 4, none⟩ x4).setCell ⟨g, n * 6 + 5, none⟩ x5).ownsRow base 48 6 (.slice (some ⟨g, 0, none⟩) (n + 1) c) (n + 1) (xs ++ [x0, x1, x2, x3, x4, x5]) := by
  obtain ⟨h1, h2⟩ := h
  refine ⟨by simp [hx]; omega, .inr ?_⟩
  rcases h2 with ⟨h2, _⟩ | ⟨g', cap, cur, he, hb, hh, hnc, hcm, hcs, ht⟩
  · cases h2
  · injection he with a1 a2 a3
    injection a1 with a1
    injection a1 with a1
    subst a1; subst a3
    refine ⟨g, c, _, rfl, hb, blk_set (blk_set (blk_set (blk_set (blk_set (blk_set hh _ _) _ _) _ _) _ _) _ _) _ _, hnc, hcm, by simp [hcs], ?_⟩
    have hcur : cur.toList = xs ++ [z0, z1, z2, z3, z4, z5] ++ cur.toList.drop ((n + 1) * 6) := by rw [← ht, List.take_append_drop]
    have hl := congrArg List.length hcur
    simp only [List.length_append, List.length_cons, List.length_nil] at hl
    simp only [Array.toList_setIfInBounds]
    rw [hcur]
    generalize cur.toList.drop ((n + 1) * 6) = r
    have key : ∀ (i : Nat) (u : Value) (a b : List Value) (w : Value), a.length = i → (a ++ w :: b).set i u = a ++ u :: b := by
      intro i u a b w ha
      subst ha
      simp
    rw [List.append_assoc]
    simp only [List.cons_append, List.nil_append]
    rw [key (n * 6) x0 xs _ z0 hx]
    rw [show xs ++ x0 :: z1 :: z2 :: z3 :: z4 :: z5 :: r = (xs ++ [x0]) ++ z1 :: z2 :: z3 :: z4 :: z5 :: r by simp, key (n * 6 + 1) x1 _ _ z1 (by simp [hx])]
    rw [show (xs ++ [x0]) ++ x1 :: z2 :: z3 :: z4 :: z5 :: r = (xs ++ [x0, x1]) ++ z2 :: z3 :: z4 :: z5 :: r by simp, key (n * 6 + 2) x2 _ _ z2 (by simp [hx])]
    rw [show (xs ++ [x0, x1]) ++ x2 :: z3 :: z4 :: z5 :: r = (xs ++ [x0, x1, x2]) ++ z3 :: z4 :: z5 :: r by simp, key (n * 6 + 3) x3 _ _ z3 (by simp [hx])]
    rw [show (xs ++ [x0, x1, x2]) ++ x3 :: z4 :: z5 :: r = (xs ++ [x0, x1, x2, x3]) ++ z4 :: z5 :: r by simp, key (n * 6 + 4) x4 _ _ z4 (by simp [hx])]
    rw [show (xs ++ [x0, x1, x2, x3]) ++ x4 :: z5 :: r = (xs ++ [x0, x1, x2, x3, x4]) ++ z5 :: r by simp, key (n * 6 + 5) x5 _ _ z5 (by simp [hx])]
    rw [show (xs ++ [x0, x1, x2, x3, x4]) ++ x5 :: r = (xs ++ [x0, x1, x2, x3, x4, x5]) ++ r by simp]
    exact List.take_left' (by simp [hx]; omega)
theorem cells_six {x : Tv} {f0 f2 f3 d : Int} {f1 : ByteArray} {sA : Option Addr} {sn sc : Nat} (hx : cellsV x = [.int .i64 f0, .string f1, .int .i64 f2, .int .i64 f3, .slice sA sn sc, .int .i64 d]) (l : List Tv) : encVs (l ++ [x]) = encVs l ++ [.int .i64 f0, .string f1, .int .i64 f2, .int .i64 f3, .slice sA sn sc, .int .i64 d] := by
  unfold encVs; rw [List.flatMap_append]; simp [hx]
theorem row_cells {W : World} {base g n c : Nat} {xs : List Value} {z0 z1 z2 z3 z4 z5 : Value} (h : W.ownsRow base 48 6 (.slice (some ⟨g, 0, none⟩) (n + 1) c) (n + 1) (xs ++ [z0, z1, z2, z3, z4, z5])) (hx : xs.length = n * 6) :
    (∃ cs, W.heap[g]? = some (.cells cs 48 (0, 0))) ∧ W.cell? ⟨g, n * 6, none⟩ = some z0 ∧ W.cell? ⟨g, n * 6 + 1, none⟩ = some z1 ∧ W.cell? ⟨g, n * 6 + 2, none⟩ = some z2 ∧ W.cell? ⟨g, n * 6 + 3, none⟩ = some z3 ∧ W.cell? ⟨g, n * 6 + 4, none⟩ = some z4 ∧ W.cell? ⟨g, n * 6 + 5, none⟩ = some z5 := by
  rcases h.2 with ⟨h2, _⟩ | ⟨g', cap, cur, he, hb, hh, hnc, hcm, hcs, ht⟩
  · cases h2
  · injection he with a1 a2 a3
    injection a1 with a1
    injection a1 with a1
    subst a1; subst a3
    have key : ∀ i : Nat, i < 6 → W.cell? ⟨g, n * 6 + i, none⟩ = [z0, z1, z2, z3, z4, z5][i]? := by
      intro i hi
      rw [Lib.cell_of_heap hh, ← Array.getElem?_toList, ← List.getElem?_take_of_lt (show n * 6 + i < (n + 1) * 6 by omega), ht, List.getElem?_append_right (by omega), hx, Nat.add_sub_cancel_left]
    exact ⟨⟨cur, hh⟩, key 0 (by omega), key 1 (by omega), key 2 (by omega), key 3 (by omega), key 4 (by omega), key 5 (by omega)⟩
theorem Kp.set_ {S : Nat → Prop} {a b : World} (h : Kp S a b) {g i : Nat} (hg : S g ∨ a.heap.size ≤ g) (v : Value) : Kp S a (b.setCell ⟨g, i, none⟩ v) :=
  have q := (Below.refl 0 b).setCell (p := ⟨g, i, none⟩) (Nat.zero_le _) v
  ⟨q.os.trans h.os, q.tape.trans h.tape, q.output.trans h.output, Nat.le_trans h.size q.size, fun k hk hn => (Below.heap_setCell b ⟨g, i, none⟩ v k (fun e => by
    rcases hg with hg | hg
    · exact hn (by rw [e]; exact hg)
    · simp only at e; omega)).trans (h.block k hk hn)⟩
def PushRes (W : World) (p base : Nat) (A : Option Addr) (n c : Nat) (l : List Tv) (x : Tv) (e : Ending) (W' : World) : Prop :=
  ∃ A' c', e = .returned (.tuple #[]) ∧ Stk W' p base A' (n + 1) c' (l ++ [x]) ∧ Kp (fun i => i = p ∨ some i = (Value.slice A n c).ownBlock) W W' ∧ ((Value.slice A' (n + 1) c').ownBlock = (Value.slice A n c).ownBlock ∨ ∃ b, (Value.slice A' (n + 1) c').ownBlock = some b ∧ W.heap.size ≤ b)
section
variable {W W2 w1 : World} {p base g cap : Nat} {A : Option Addr} {n c : Nat} {l : List Tv} {x : Tv} {f0 f2 f3 d : Int} {f1 : ByteArray} {sA : Option Addr} {sn sc : Nat}
theorem push_fin (h : Stk W p base A n c l) (hx : cellsV x = [.int .i64 f0, .string f1, .int .i64 f2, .int .i64 f3, .slice sA sn sc, .int .i64 d]) (hb : Below W.heap.size W W2) 
    (O1 : w1.ownsRow base 48 6 (.slice (some ⟨g, 0, none⟩) (n + 1) cap) (n + 1) (encVs l ++ [.int .i64 0, .string ⟨#[]⟩, .int .i64 0, .int .i64 0, .slice none 0 0, .int .i64 0])) (G1 : W2.grownBy w1 (Value.slice A n c).ownBlock) (T1 : (Value.slice A n c).ownBlock = some g ∨ g = W.heap.size + 2) (hpg : p ≠ g) :
    PushRes W p base A n c l x (.returned (.tuple #[])) (((((((w1.setCell ⟨g, n * 6, none⟩ (.int .i64 f0)).setCell ⟨g, n * 6 + 1, none⟩ (.string f1)).setCell ⟨g, n * 6 + 2, none⟩ (.int .i64 f2)).setCell ⟨g, n * 6 + 3, none⟩ (.int .i64 f3)).setCell ⟨g, n * 6 + 4, none⟩ (.slice sA sn sc)).setCell ⟨g, n * 6 + 5, none⟩ (.int .i64 d)).setCell ⟨p, 0, none⟩ (.slice (some ⟨g, 0, none⟩) (n + 1) cap)) ∧
    PushRes W p base A n c l x (.returned (.tuple #[])) (((((((w1.setCell ⟨p, 0, none⟩ (.slice (some ⟨g, 0, none⟩) (n + 1) cap)).setCell ⟨g, n * 6, none⟩ (.int .i64 f0)).setCell ⟨g, n * 6 + 1, none⟩ (.string f1)).setCell ⟨g, n * 6 + 2, none⟩ (.int .i64 f2)).setCell ⟨g, n * 6 + 3, none⟩ (.int .i64 f3)).setCell ⟨g, n * 6 + 4, none⟩ (.slice sA sn sc)).setCell ⟨g, n * 6 + 5, none⟩ (.int .i64 d)) := by
  have hcl : (encVs l).length = n * 6 := by rw [encVs_len, h.len]
  have hsp : w1.heap[p]? = _ := blk_grown (blk_below h.cell hb) G1 (own_ne (own_bel h.own hb (Nat.le_refl _)) (blk_below h.cell hb) (by decide))
  have K1 : Kp (fun i => i = p ∨ some i = (Value.slice A n c).ownBlock) W w1 :=
    (Kp.of_below hb).trans (T := fun i => some i = (Value.slice A n c).ownBlock) ⟨G1.os, G1.tape, G1.output, G1.size, fun i hi hn => G1.block i hi hn⟩ (fun i _ hi => .inr hi)
  have hg : (g = p ∨ some g = (Value.slice A n c).ownBlock) ∨ W.heap.size ≤ g := by
    rcases T1 with h1 | h1
    · exact .inl (.inr h1.symm)
    · right; omega
  have hp : (p = p ∨ some p = (Value.slice A n c).ownBlock) ∨ W.heap.size ≤ p := .inl (.inl rfl)
  have hown : (Value.slice (some ⟨g, 0, none⟩) (n + 1) cap).ownBlock = (Value.slice A n c).ownBlock ∨ ∃ b, (Value.slice (some ⟨g, 0, none⟩) (n + 1) cap).ownBlock = some b ∧ W.heap.size ≤ b := by
    rcases T1 with h1 | h1
    · left; rw [h1]; rfl
    · right; exact ⟨g, rfl, by omega⟩
  have hpo : some p ≠ (Value.slice (some ⟨g, 0, none⟩) (n + 1) cap).ownBlock := by simpa [Value.ownBlock] using hpg
  have hlen : (l ++ [x]).length = n + 1 := by rw [List.length_append, h.len]; rfl
  refine ⟨⟨_, _, rfl, ⟨blk_put (blk_far (blk_far (blk_far (blk_far (blk_far (blk_far hsp hpg _) hpg _) hpg _) hpg _) hpg _) hpg _) 0 _ rfl, ?_, hlen⟩, (((((((K1.set_ hg _).set_ hg _).set_ hg _).set_ hg _).set_ hg _).set_ hg _).set_ hp _), hown⟩,
    ⟨_, _, rfl, ⟨blk_far (blk_far (blk_far (blk_far (blk_far (blk_far (blk_put hsp 0 _ rfl) hpg _) hpg _) hpg _) hpg _) hpg _) hpg _, ?_, hlen⟩, (((((((K1.set_ hp _).set_ hg _).set_ hg _).set_ hg _).set_ hg _).set_ hg _).set_ hg _), hown⟩⟩
  · rw [cells_six hx]; exact own_setCell (own_six O1 hcl) hpo _
  · rw [cells_six hx]; exact own_six (own_setCell O1 hpo _) hcl
end
set_option maxHeartbeats 8000000 in
set_option maxRecDepth 100000 in
theorem push_calls (W : World) (p base : Nat) (A : Option Addr) (n c : Nat) (l : List Tv) (h : Stk W p base A n c l) (x : Tv) (f0 f2 f3 d : Int) (f1 : ByteArray) (sA : Option Addr) (sn sc : Nat) (hx : cellsV x = [.int .i64 f0, .string f1, .int .i64 f2, .int .i64 f3, .slice sA sn sc, .int .i64 d]) (hn : n ≤ 4294967295) (hbase : base ≤ W.heap.size) :
    Calls Tryz.prog 43 #[.pointer (some ⟨p, 0, none⟩), .agg #[.int .i64 f0, .string f1, .int .i64 f2, .int .i64 f3, .slice sA sn sc, .int .i64 d]] W (PushRes W p base A n c l x) := by
  have hb1 : Below W.heap.size W (W.alloc (boxV f0 f1 f2 f3 sA sn sc d)) := (Below.refl _ W).alloc (Nat.le_refl _) _
  have x0 := (blk_cell (blk_below h.cell hb1) 0).trans rfl
  have z0 := blk_frozen (blk_below h.cell hb1) 0
  obtain ⟨i0, hi, hzz⟩ := Option.map_eq_some_iff.1 info_val
  simp only [Prod.mk.injEq] at hzz
  obtain ⟨hz0, hz1, hz2⟩ := hzz
  have hlt := blk_lt h.cell
  have hs1 : (W.alloc (boxV f0 f1 f2 f3 sA sn sc d)).heap.size = W.heap.size + 1 := Array.size_push _
  obtain ⟨W2, hW2⟩ : ∃ W2, (((W.alloc (boxV f0 f1 f2 f3 sA sn sc d)).alloc (boxV 0 ⟨#[]⟩ 0 0 none 0 0 0)).drew) = W2 := ⟨_, rfl⟩
  have hb2 : Below W.heap.size W W2 := by rw [← hW2]; exact bel1 (hb1.alloc (by rw [hs1]; omega) _)
  have HO := Lib.hid (own_bel h.own hb2 (Nat.le_refl _))
  have HSQ := Lib.hid (show W2.heap.size = W.heap.size + 2 by
    rw [← hW2]
    show ((W.alloc (boxV f0 f1 f2 f3 sA sn sc d)).heap.push _).size = _
    rw [Array.size_push, hs1])
  have HSZ := Lib.hid (show base ≤ W2.heap.size by rw [HSQ.out]; omega)
  have hzb := blk_new (W.alloc (boxV f0 f1 f2 f3 sA sn sc d)) (boxV 0 ⟨#[]⟩ 0 0 none 0 0 0)
  rw [hs1] at hzb
  have HZ := Lib.hid (World.news_of_block (w := W2) (by rw [← hW2]; exact hzb))
  have HCL := Lib.hid (show (encVs l).length = n * 6 by rw [encVs_len, h.len])
  have HBX := Lib.hid (show W2.heap[W.heap.size]? = some (.cells #[.int .i64 f0, .string f1, .int .i64 f2, .int .i64 f3, .slice sA sn sc, .int .i64 d] 48 (0, 0)) by rw [← hW2]; exact blk_alloc (blk_new W _) _)
  have HST := Lib.hid (show W2.heap[p]? = _ from (blk_below h.cell hb2))
  have HW2 := Lib.hid hW2
  have HH := Lib.hid h
  have hn1 : (n : Int) < ((n + 1 : Nat) : Int) := by omega
  have hn2 : (n : Int) < (n : Int) + 1 := by omega
  have g0 := (blk_cell HBX.out 0).trans rfl
  have g1 := (blk_cell HBX.out 1).trans rfl
  have g2 := (blk_cell HBX.out 2).trans rfl
  have g3 := (blk_cell HBX.out 3).trans rfl
  have g4 := (blk_cell HBX.out 4).trans rfl
  have g5 := (blk_cell HBX.out 5).trans rfl
  have gx := (blk_cell HST.out 0).trans rfl
  have HX := Lib.hid hx
  have HB2 := Lib.hid hb2
  clear hb1 h hs1 hzb hb2 hx
  go_enter Tryz.func43, Tryz.ntmps43
  go_wp2_with fail
  go_region_law (first | (refine step_append_lies _ rfl (.tmp 7) (.tmp 10) 46 rfl base 48 i0 _ 6 72 Tryz.underlying46 hi hz0 hz1 hz2 rfl (by decide) (.slice A n c) n (encVs l) rfl (HO.out) ⟨W.heap.size + 1, 0, none⟩ 1 1 [.int .i64 0, .string ⟨#[]⟩, .int .i64 0, .int .i64 0, .slice none 0 0, .int .i64 0] rfl rfl ?qa ?qb (by decide) ?qc ?qd ?qe (W.heap.size + 2) ?qf ?_; (case qa => exact HZ.out); (case qb => intro u hu; simp at hu; rcases hu with rfl | rfl | rfl | rfl | rfl | rfl <;> rfl); (case qc => simp only [maxLen]; omega); (case qd => omega); (case qe => exact HSZ.out); (case qf => exact HSQ.out); intro g cap w1 hown hgrow hat hgl; have O1 := Lib.hid hown; have G1 := Lib.hid hgrow; have T1 := Lib.hid hat; clear hown hgrow hat; obtain ⟨⟨cs, hcs⟩, y0, y1, y2, y3, y4, y5⟩ := row_cells O1.out HCL.out; have z1 := blk_frozen hcs (n * 6); have z2 := blk_frozen hcs (n * 6 + 1); have z3 := blk_frozen hcs (n * 6 + 2); have z4 := blk_frozen hcs (n * 6 + 3); have z5 := blk_frozen hcs (n * 6 + 4); have z6 := blk_frozen hcs (n * 6 + 5); have hsp := blk_grown HST.out G1.out (own_ne HO.out HST.out (by decide)); have x1 := (blk_cell hsp 0).trans rfl; have zp := blk_frozen hsp 0; have hpg := blk_ne hsp hcs (by decide); have x2 := (cell_far (W := w1) (p := ⟨g, n * 6, none⟩) (a := ⟨p, 0, none⟩) hpg (.int .i64 f0)).trans x1; have u0 := (cell_far (W := w1) (p := ⟨p, 0, none⟩) (a := ⟨g, n * 6, none⟩) hpg.symm (.slice (some ⟨g, 0, none⟩) (n + 1) cap)).trans y0; have u1 := (cell_far (W := w1) (p := ⟨p, 0, none⟩) (a := ⟨g, n * 6 + 1, none⟩) hpg.symm (.slice (some ⟨g, 0, none⟩) (n + 1) cap)).trans y1; have u2 := (cell_far (W := w1) (p := ⟨p, 0, none⟩) (a := ⟨g, n * 6 + 2, none⟩) hpg.symm (.slice (some ⟨g, 0, none⟩) (n + 1) cap)).trans y2; have u3 := (cell_far (W := w1) (p := ⟨p, 0, none⟩) (a := ⟨g, n * 6 + 3, none⟩) hpg.symm (.slice (some ⟨g, 0, none⟩) (n + 1) cap)).trans y3; have u4 := (cell_far (W := w1) (p := ⟨p, 0, none⟩) (a := ⟨g, n * 6 + 4, none⟩) hpg.symm (.slice (some ⟨g, 0, none⟩) (n + 1) cap)).trans y4; have u5 := (cell_far (W := w1) (p := ⟨p, 0, none⟩) (a := ⟨g, n * 6 + 5, none⟩) hpg.symm (.slice (some ⟨g, 0, none⟩) (n + 1) cap)).trans y5; have HPG := Lib.hid hpg; clear hcs hsp hpg))
  all_goals
    go_end0
    have hf := push_fin HH.out HX.out HB2.out O1.out G1.out T1.out HPG.out
    first | (with_reducible exact hf.1) | (with_reducible exact hf.2)
end Go.Proofs.YtoefnmhmiphilaaGreatDoor.Tp

namespace Go.Proofs.YtoefnmhmiphilaaGreatDoor.Tp
open Go Go.RowKit Go.Maps Go.Proofs.YtoefnmhmiphilaaGreatDoorW.PrintWords
abbrev boxZ : Array Value := #[.int .i64 0, .string ⟨#[]⟩, .int .i64 0, .int .i64 0, .slice none 0 0, .int .i64 0]
structure AI (o : List Nd) (W V : World) (B : Nat) (A : Option Addr) (n c : Nat) (ms : List Mt) (j : Nat) : Prop where
  stk : Stk V (B + 1) (B + 2) A n c (ms.map Mt.tv)
  hold : Holds V (B + 2) ms
  nd : (bls ms).Nodup
  far : ∀ k ∈ bls ms, some k ≠ (Value.slice A n c).ownBlock
  run : pushes [] (o.take j) = some (trs ms)
  res : V.heap[B]? = some (.cells boxZ 48 (0, 0))
  bel : Below B W V
structure AM (W V : World) (B : Nat) (A : Option Addr) (n c q k : Nat) (A' : Option Addr) (c' : Nat) (ms : List Mt) : Prop where
  stk : Stk V (B + 1) (B + 2) A q c ((ms.take q).map Mt.tv)
  hold : Holds V (B + 2) ms
  row : V.ownsRow (B + 2) 48 6 (.slice A' k c') k (encVs ((ms.drop q).map Mt.tv))
  nd : (bls ms).Nodup
  far : ∀ k ∈ bls ms, some k ≠ (Value.slice A n c).ownBlock
  new : ∀ b, (Value.slice A' k c').ownBlock = some b → b ∉ bls ms ∧ some b ≠ (Value.slice A n c).ownBlock
  res : V.heap[B]? = some (.cells boxZ 48 (0, 0))
  bel : Below B W V
  len : q + k = ms.length
theorem Stk.below {W V : World} {p base : Nat} {A : Option Addr} {n c : Nat} {l : List Tv} (h : Stk W p base A n c l) (hb : Below W.heap.size W V) : Stk V p base A n c l :=
  ⟨blk_below h.cell hb, own_bel h.own hb (Nat.le_refl _), h.len⟩
theorem AI.below {o : List Nd} {W V V' : World} {B : Nat} {A : Option Addr} {n c : Nat} {ms : List Mt} {j : Nat} (h : AI o W V B A n c ms j) (hb : Below V.heap.size V V') : AI o W V' B A n c ms j :=
  ⟨h.stk.below hb, h.hold.below hb, h.nd, h.far, h.run, blk_below h.res hb, h.bel.trans (hb.mono (Nat.le_of_lt (blk_lt h.res)))⟩
theorem AM.below {W V V' : World} {B : Nat} {A : Option Addr} {n c q k : Nat} {A' : Option Addr} {c' : Nat} {ms : List Mt} (h : AM W V B A n c q k A' c' ms) (hb : Below V.heap.size V V') : AM W V' B A n c q k A' c' ms :=
  ⟨h.stk.below hb, h.hold.below hb, own_bel h.row hb (Nat.le_refl _), h.nd, h.far, h.new, blk_below h.res hb, h.bel.trans (hb.mono (Nat.le_of_lt (blk_lt h.res))), h.len⟩
theorem AI.pop {o : List Nd} {W V V1 : World} {B : Nat} {A : Option Addr} {n c : Nat} {ms : List Mt} {j : Nat} (h : AI o W V B A n c ms j) {q k : Nat} (hk : q + k = n) {A' : Option Addr} {c' : Nat} (hb : Below V.heap.size V V1)
    (ho : V1.ownsRow V.heap.size 48 6 (.slice A' k c') k (encVs ((ms.map Mt.tv).drop q))) : AM W (V1.setCell ⟨B + 1, 0, none⟩ (.slice A q c)) B A n c q k A' c' ms := by
  have h1 := h.below hb
  have hlen : ms.length = n := by have := h.stk.len; rwa [List.length_map] at this
  have hty : ∀ {e : List Value} {m : Nat} {v : Value}, V1.ownsRow (B + 2) 48 6 v m e → some (B + 1) ≠ v.ownBlock := fun hh => own_ne hh h1.stk.cell (by decide)
  have hfr := hty h1.stk.own
  have hnew := ho
  have hBV : B + 2 ≤ V.heap.size := by have := blk_lt h.stk.cell; omega
  refine ⟨⟨blk_put h1.stk.cell 0 _ rfl, own_setCell (by rw [List.map_take]; exact own_cut (l := ms.map Mt.tv) h1.stk.own (show q ≤ n by omega)) ?_ _, by rw [List.length_map, List.length_take]; omega⟩, h1.hold.move ?_, own_setCell (own_lower (by rw [List.map_drop]; exact ho) hBV) (hty (own_lower ho hBV)) _, h.nd, h.far, ?_, blk_far h1.res (by simp) _, h1.bel.setCell (by simp) _, by omega⟩
  · cases A with
    | none => simp [Value.ownBlock]
    | some a => exact hfr
  · intro i hi
    refine Below.heap_setCell _ _ _ _ ?_
    intro e
    obtain ⟨_, _, cells, hc⟩ := h1.hold.lt i hi
    simp only at e
    rw [e, h1.stk.cell] at hc
    injection hc with hc
    injection hc with _ hc
    revert hc; decide
  · intro b hb'
    have hge := own_base ho b hb'
    refine ⟨fun hm => ?_, fun e => ?_⟩
    · have := (h.hold.lt b hm).2.1; omega
    · have := own_lt h.stk.own b e.symm; omega
theorem push_trs {ms : List Mt} {x : Nd} {q k : Nat} (hx : x.f3 = (k : Int)) (hlen : q + k = ms.length) (hm : may x = true) (hf : fits x (trs (ms.drop q)) = true) (s : Sl) : push (trs ms) x = some (trs (ms.take q ++ [.mk x s (ms.drop q)])) := by
  unfold push
  have hl : (trs ms).length = ms.length := trs_length ms
  rw [if_pos (by rw [hl, hx]; omega)]
  have e1 : (trs ms).length - x.f3.toNat = q := by rw [hl, hx]; omega
  simp only [e1]
  rw [← trs_drop, ← trs_take, hm, hf, trs_append]
  simp [trs, Mt.tr]
theorem push_none {ms : List Mt} {x : Nd} (h : x.f3 < 0 ∨ (ms.length : Int) < x.f3) : push (trs ms) x = none := by
  unfold push; rw [if_neg (by rw [trs_length]; omega)]
theorem push_none2 {ms : List Mt} {x : Nd} {q k : Nat} (hx : x.f3 = (k : Int)) (hlen : q + k = ms.length) (h : (may x && fits x (trs (ms.drop q))) = false) : push (trs ms) x = none := by
  unfold push
  have hl : (trs ms).length = ms.length := trs_length ms
  rw [if_pos (by rw [hl, hx]; omega)]
  have e1 : (trs ms).length - x.f3.toNat = q := by rw [hl, hx]; omega
  simp only [e1]
  rw [← trs_drop, h]; rfl
theorem pushes_stop {o : List Nd} {j : Nat} (hj : j < o.length) {st : List Tr} (h : pushes [] (o.take j) = some st) (hp : push st o[j] = none) : pushes [] o = none := by
  have e : o = o.take j ++ o[j] :: o.drop (j + 1) := by rw [← List.drop_eq_getElem_cons hj, List.take_append_drop]
  rw [e, pushes_app, h]
  simp only [Option.bind_some, pushes, hp]
theorem pushes_step {o : List Nd} {j : Nat} (hj : j < o.length) {st st' : List Tr} (h : pushes [] (o.take j) = some st) (hp : push st o[j] = some st') : pushes [] (o.take (j + 1)) = some st' := by
  rw [List.take_succ_eq_append_getElem hj, pushes_app, h]
  simp only [Option.bind_some, pushes, hp]
theorem AM.push {o : List Nd} {W V V' : World} {B : Nat} {A : Option Addr} {n c q k : Nat} {A' : Option Addr} {c' : Nat} {ms : List Mt} {j : Nat} (h : AM W V B A n c q k A' c' ms) (hAq : (Value.slice A q c).ownBlock = (Value.slice A n c).ownBlock) (hj : j < o.length) (hrun : pushes [] (o.take j) = some (trs ms)) {x : Nd} (hxe : o[j] = x) (hx : x.f3 = (k : Int)) (hm : may x = true) (hf : fits x (trs (ms.drop q)) = true)
    {A2 : Option Addr} {c2 : Nat} (hs : Stk V' (B + 1) (B + 2) A2 (q + 1) c2 ((ms.take q).map Mt.tv ++ [(Mt.mk x ⟨A', k, c'⟩ (ms.drop q)).tv])) (hk : Kp (fun i => i = B + 1 ∨ some i = (Value.slice A q c).ownBlock) V V')
    (ho : (Value.slice A2 (q + 1) c2).ownBlock = (Value.slice A q c).ownBlock ∨ ∃ b, (Value.slice A2 (q + 1) c2).ownBlock = some b ∧ V.heap.size ≤ b) :
    AI o W V' B A2 (q + 1) c2 (ms.take q ++ [.mk x ⟨A', k, c'⟩ (ms.drop q)]) (j + 1) := by
  have hty : ∀ i ∈ bls ms, i ≠ B + 1 := by
    intro i hi e
    obtain ⟨_, _, cells, hc⟩ := h.hold.lt i hi
    rw [e, h.stk.cell] at hc
    injection hc with hc
    injection hc with _ hc
    revert hc; decide
  have hmv : ∀ i ∈ bls ms, V'.heap[i]? = V.heap[i]? := fun i hi => hk.block i (h.hold.lt i hi).2.1 (by
    rintro (e | e)
    · exact hty i hi e
    · exact h.far i hi (by rw [e, hAq]))
  have hh : Holds V' (B + 2) ms := h.hold.move hmv
  have hrow : V'.ownsRow (B + 2) 48 6 (.slice A' k c') k (encVs ((ms.drop q).map Mt.tv)) := own_move h.row (fun i hi => hk.block i (own_lt h.row i hi) (by
    rintro (e | e)
    · exact absurd (by rw [hi, e]) (own_ne h.row h.stk.cell (by decide)).symm
    · exact (h.new i hi).2 (by rw [e, hAq])))
  have hall := Holds_all.1 hh
  have hnew : Hold V' (B + 2) (.mk x ⟨A', k, c'⟩ (ms.drop q)) := Hold.mk_ (by rw [List.length_drop]; have := h.len; simp only; omega) hrow (fun m hm => hall m (List.mem_of_mem_drop hm))
  have hb : bls (ms.take q ++ [.mk x ⟨A', k, c'⟩ (ms.drop q)]) = bls (ms.take q) ++ ((Value.slice A' k c').ownBlock.toList ++ bls (ms.drop q)) := by
    rw [bls_append]; simp [bls, Mt.bl]
  have hsplit : bls ms = bls (ms.take q) ++ bls (ms.drop q) := by rw [← bls_append, List.take_append_drop]
  have hmem : ∀ i ∈ bls (ms.take q ++ [.mk x ⟨A', k, c'⟩ (ms.drop q)]), i ∈ bls ms ∨ (Value.slice A' k c').ownBlock = some i := by
    intro i hi
    rw [hb, List.mem_append, List.mem_append, Option.mem_toList] at hi
    rw [hsplit, List.mem_append]
    rcases hi with hi | hi | hi
    · exact .inl (.inl hi)
    · exact .inr hi
    · exact .inl (.inr hi)
  refine ⟨by rw [List.map_append]; exact hs, Holds_all.2 fun m hm => ?_, ?_, fun i hi e => ?_, pushes_step hj hrun (by rw [hxe]; exact push_trs hx h.len hm hf _), ?_, h.bel.trans (hk.below (Nat.le_of_lt (blk_lt h.res)) (by
    rintro i (e | e)
    · omega
    · have := own_base h.stk.own i e.symm; omega))⟩
  · rcases List.mem_append.1 hm with hm | hm
    · exact hall m (List.mem_of_mem_take hm)
    · simp at hm; subst hm; exact hnew
  · rw [hb]
    have hp : ((Value.slice A' k c').ownBlock.toList ++ bls ms).Perm (bls (ms.take q) ++ ((Value.slice A' k c').ownBlock.toList ++ bls (ms.drop q))) := by
      rw [hsplit, ← List.append_assoc, ← List.append_assoc]
      exact List.Perm.append_right _ List.perm_append_comm
    refine hp.nodup_iff.1 (List.nodup_append.2 ⟨?_, h.nd, ?_⟩)
    · cases (Value.slice A' k c').ownBlock <;> simp
    · intro a ha b hb' e
      subst e
      rw [Option.mem_toList] at ha
      exact (h.new a ha).1 hb'
  · have hi2 := hmem i hi
    rcases ho with ho | ⟨b, ho, hge⟩
    · rw [ho, hAq] at e
      rcases hi2 with hi2 | hi2
      · exact h.far i hi2 e
      · exact (h.new i hi2).2 e
    · rw [ho] at e
      injection e with e
      subst e
      rcases hi2 with hi2 | hi2
      · have := (h.hold.lt i hi2).2.1; omega
      · have := own_lt h.row i hi2; omega
  · refine (hk.block B (blk_lt h.res) ?_).trans h.res
    rintro (e | e)
    · omega
    · have := own_base h.stk.own B e.symm; omega
end Go.Proofs.YtoefnmhmiphilaaGreatDoor.Tp

namespace Go.Proofs.YtoefnmhmiphilaaGreatDoor.Tp
open Go Go.RowKit Go.Maps Go.Proofs.YtoefnmhmiphilaaGreatDoorW.PrintWords
def ARes (o : List Nd) (W : World) (e : Ending) (W' : World) : Prop :=
  Below W.heap.size W W' ∧ match apart o with
  | .ok t => ∃ m : Mt, m.tr = t ∧ Hold W' W.heap.size m ∧ m.bl.Nodup ∧ e = .returned (.tuple #[.agg #[.int .i64 m.nd.f0, .string m.nd.f1, .int .i64 m.nd.f2, .int .i64 m.nd.f3, .slice m.sl.A m.sl.n m.sl.c, .int .i64 (deep t : Int)], .int .i64 0])
  | .error x => e = .returned (.tuple #[.agg #[.int .i64 0, .string ⟨#[]⟩, .int .i64 0, .int .i64 0, .slice none 0 0, .int .i64 0], .int .i64 x])
theorem ARes.err {o : List Nd} {W W' : World} {x : Int} (h : apart o = .error x) (hb : Below W.heap.size W W') : ARes o W (.returned (.tuple #[.agg #[.int .i64 0, .string ⟨#[]⟩, .int .i64 0, .int .i64 0, .slice none 0 0, .int .i64 0], .int .i64 x])) W' := by
  unfold ARes; rw [h]; exact ⟨hb, rfl⟩
theorem ARes.ok {o : List Nd} {W W' : World} {t : Tr} (h : apart o = .ok t) (hb : Below W.heap.size W W') (m : Mt) (hm : m.tr = t) (hh : Hold W' W.heap.size m) (hn : m.bl.Nodup) {f0 f2 f3 d : Int} {f1 : ByteArray} {A : Option Addr} {n c : Nat} (h0 : m.nd = ⟨f0, f1, f2, f3⟩) (h1 : m.sl = ⟨A, n, c⟩) (h2 : d = (deep t : Int)) :
    ARes o W (.returned (.tuple #[.agg #[.int .i64 f0, .string f1, .int .i64 f2, .int .i64 f3, .slice A n c, .int .i64 d], .int .i64 0])) W' := by
  unfold ARes; rw [h]; refine ⟨hb, m, hm, hh, hn, ?_⟩; rw [h0, h1, h2]
theorem six_back {w : World} {b : Nat} {t : TypeId} {a0 a1 a2 a3 a4 a5 : Value} (h : w.heap[b]? = some (.cells #[a0, a1, a2, a3, a4, a5] t (0, 0))) (u0 u1 u2 u3 u4 u5 : Value) :
    ((((((w.setCell ⟨b, 0, none⟩ u0).setCell ⟨b, 1, none⟩ u1).setCell ⟨b, 2, none⟩ u2).setCell ⟨b, 3, none⟩ u3).setCell ⟨b, 4, none⟩ u4).setCell ⟨b, 5, none⟩ u5).heap[b]? = some (.cells #[u0, u1, u2, u3, u4, u5] t (0, 0)) :=
  blk_put (blk_put (blk_put (blk_put (blk_put (blk_put h 0 u0 rfl) 1 u1 rfl) 2 u2 rfl) 3 u3 rfl) 4 u4 rfl) 5 u5 rfl
theorem six_bel {W w : World} {b : Nat} (h : Below b W w) (u0 u1 u2 u3 u4 u5 : Value) :
    Below b W ((((((w.setCell ⟨b, 0, none⟩ u0).setCell ⟨b, 1, none⟩ u1).setCell ⟨b, 2, none⟩ u2).setCell ⟨b, 3, none⟩ u3).setCell ⟨b, 4, none⟩ u4).setCell ⟨b, 5, none⟩ u5) :=
  (((((h.setCell (Nat.le_refl _) _).setCell (Nat.le_refl _) _).setCell (Nat.le_refl _) _).setCell (Nat.le_refl _) _).setCell (Nat.le_refl _) _).setCell (Nat.le_refl _) _
theorem six_far {w : World} {b i : Nat} (h : i ≠ b) (u0 u1 u2 u3 u4 u5 : Value) : ((((((w.setCell ⟨b, 0, none⟩ u0).setCell ⟨b, 1, none⟩ u1).setCell ⟨b, 2, none⟩ u2).setCell ⟨b, 3, none⟩ u3).setCell ⟨b, 4, none⟩ u4).setCell ⟨b, 5, none⟩ u5).heap[i]? = w.heap[i]? := by
  rw [Below.heap_setCell _ ⟨b, 5, none⟩ _ _ h, Below.heap_setCell _ ⟨b, 4, none⟩ _ _ h, Below.heap_setCell _ ⟨b, 3, none⟩ _ _ h, Below.heap_setCell _ ⟨b, 2, none⟩ _ _ h, Below.heap_setCell _ ⟨b, 1, none⟩ _ _ h, Below.heap_setCell _ ⟨b, 0, none⟩ _ _ h]
theorem AI.len_ {o : List Nd} {W V : World} {B : Nat} {A : Option Addr} {n c : Nat} {ms : List Mt} {j : Nat} (h : AI o W V B A n c ms j) : ms.length = n ∧ flats (trs ms) = o.take j ∧ n ≤ j := by
  have h1 : ms.length = n := by have := h.stk.len; rwa [List.length_map] at this
  have h2 := pushes_flat h.run
  simp only [flats, List.nil_append] at h2
  refine ⟨h1, h2, ?_⟩
  have h3 := length_flats (trs ms)
  rw [h2, trs_length, List.length_take] at h3
  omega
theorem AI.txt {o : List Nd} {W V : World} {B : Nat} {A : Option Addr} {n c : Nat} {ms : List Mt} {j : Nat} (h : AI o W V B A n c ms j) (ht : ∀ x ∈ o, x.f1.size ≤ 1048576) (q : Nat) : ∀ x ∈ (ms.drop q).map Mt.tv, x.1.nd.f1.size ≤ 1048576 := by
  intro x hx
  obtain ⟨m, hm, rfl⟩ := List.mem_map.1 hx
  refine ht _ (List.mem_of_mem_take (i := j) ?_)
  rw [← h.len_.2.1]
  refine nd_flats (t := m.tr) ?_ _ (nd_flat _)
  rw [trs_map]
  exact List.mem_map.2 ⟨m, List.mem_of_mem_drop hm, rfl⟩
theorem AI.dp {o : List Nd} {W V : World} {B : Nat} {A : Option Addr} {n c : Nat} {ms : List Mt} {j : Nat} (h : AI o W V B A n c ms j) (q : Nat) : deeps (trs (ms.drop q)) ≤ j := by
  have h1 := deepsL (trs (ms.drop q))
  have h2 : flats (trs ms) = flats (trs (ms.take q)) ++ flats (trs (ms.drop q)) := by rw [← flats_append, ← trs_append, List.take_append_drop]
  have h3 := congrArg List.length h2
  rw [h.len_.2.1, List.length_append, List.length_take] at h3
  omega
theorem ap_stop {o : List Nd} (hn : ¬ 2000 < o.length) (h : pushes [] o = none) : apart o = .error 20 := by unfold apart; rw [if_neg hn, h]
set_option maxHeartbeats 16000000 in
set_option maxRecDepth 100000 in
theorem apart_calls (W : World) (A : Option Addr) (n cap : Nat) (o : List Nd) (hL : Lst W A n o) :
    Calls Tryz.prog 25 #[.slice A n cap] W (ARes o W) := by
  have hfew := hL.few
  have HLN := Lib.hid hL.len
  have B1 : Below W.heap.size W (W.alloc (.cells boxZ 48)) := (Below.refl _ W).alloc (Nat.le_refl _) _
  have hs1 : (W.alloc (.cells boxZ 48)).heap.size = W.heap.size + 1 := Array.size_push _
  have R1 := blk_new W (.cells boxZ 48)
  by_cases hn : 2000 < n
  · have d1 : decide ((2000 : Int) < (n : Int)) = true := by simp; omega
    have HX := Lib.hid (show apart o = .error 2 by unfold apart; rw [if_pos (by rw [HLN.out]; exact hn)])
    have HB1 := Lib.hid B1
    have HR1 := Lib.hid R1
    clear B1 hs1 R1 hL
    go_enter Tryz.func25, Tryz.ntmps25
    go_wp2_with fail
    have kf := HR1.out
    have k0 := (blk_cell kf 0).trans rfl
    have k1 := (blk_cell kf 1).trans rfl
    have k2 := (blk_cell kf 2).trans rfl
    have k3 := (blk_cell kf 3).trans rfl
    have k4 := (blk_cell kf 4).trans rfl
    have k5 := (blk_cell kf 5).trans rfl
    clear kf
    refine bodyPost_ret (v := .tuple #[.agg #[.int .i64 0, .string ⟨#[]⟩, .int .i64 0, .int .i64 0, .slice none 0 0, .int .i64 0], .int .i64 2]) (by simp [results, Tryz.results25, go_sem, k0, k1, k2, k3, k4, k5]) rfl ?_
    exact ARes.err HX.out HB1.out
  · have d1 : decide ((2000 : Int) < (n : Int)) = false := by simp; omega
    have hn2 : n ≤ 2000 := by omega
    have A0 : AI o W ((W.alloc (.cells boxZ 48)).alloc (.cells #[.slice none 0 0] 68)) W.heap.size none 0 0 [] 0 := by
      have hc := blk_new (W.alloc (.cells boxZ 48)) (.cells #[.slice none 0 0] 68)
      rw [hs1] at hc
      exact ⟨⟨hc, own_nil _ _ _ _, rfl⟩, trivial, by simp [bls], by simp [bls], rfl, blk_alloc R1 _, B1.alloc (by rw [hs1]; omega) _⟩
    have HA0 := Lib.hid A0
    have HL := Lib.hid hL
    have HNN := Lib.hid hn
    clear B1 hs1 R1 hL A0 hn
    go_enter Tryz.func25, Tryz.ntmps25
    go_wp2_with fail
    go_loopg [18] n (fun g v18 W' => ∃ (j n2 c2 : Nat) (A2 : Option Addr) (ms : List Mt), v18 = .int .i64 (j : Int) ∧ Hid (g = n - j) ∧ Hid (j ≤ n) ∧ Hid (AI o W W' W.heap.size A2 n2 c2 ms j))
    case atStart => exact ⟨0, 0, 0, none, [], rfl, Lib.hid rfl, Lib.hid (Nat.zero_le _), HA0⟩
    case round =>
      obtain ⟨j, n2, c2, A2, ms, rfl, HG, HJ, HA⟩ := hrel
      obtain ⟨hml, _, hn2j⟩ := HA.out.len_
      have HML := Lib.hid hml
      have hjn := HJ.out
      clear hml
      by_cases hj : j < n
      · have d2 : decide ((j : Int) < (n : Int)) = true := by simp; omega
        have hjm2 : (j : Int) < (n : Int) := by omega
        have hjl : j < o.length := by rw [HLN.out]; exact hj
        obtain ⟨b', off', hbe, hns⟩ := (HL.out.below HA.out.bel (Nat.le_refl _)).nv.some (by omega)
        subst hbe
        obtain ⟨x0, x1, x2, x3⟩ := hns.at_ j hjl
        have htx := HL.out.txt _ (List.getElem_mem hjl)
        obtain ⟨⟨f0, f1, f2, f3⟩, hx⟩ : ∃ x, o[j]'hjl = x := ⟨_, rfl⟩
        rw [hx] at x0 x1 x2 x3 htx
        simp only at x0 x1 x2 x3 htx
        have HX := Lib.hid hx
        have HA1 := Lib.hid (HA.out.below ((Below.refl _ wr).alloc (Nat.le_refl _) (.cells #[.int .i64 f0, .string f1, .int .i64 f2, .int .i64 f3] 32)))
        have hnb := blk_new wr (.cells #[.int .i64 f0, .string f1, .int .i64 f2, .int .i64 f3] 32)
        have HNB := Lib.hid hnb
        clear hns hx hnb
        by_cases hbad : f3 < 0 ∨ (n2 : Int) < f3
        · have HPN := Lib.hid (pop_no _ _ _ _ _ _ _ HA1.out.stk f3 hbad)
          have HSTOP := Lib.hid (show apart o = .error 20 from ap_stop (by rw [HLN.out]; exact HNN.out) (pushes_stop hjl HA.out.run (by rw [HX.out]; exact push_none (by rw [HML.out]; exact hbad))))
          have hres := HA1.out.res
          have HB2 := Lib.hid HA1.out.bel
          have HRES := Lib.hid hres
          have k0 := (blk_cell hres 0).trans rfl
          have k1 := (blk_cell hres 1).trans rfl
          have k2 := (blk_cell hres 2).trans rfl
          have k3 := (blk_cell hres 3).trans rfl
          have k4 := (blk_cell hres 4).trans rfl
          have k5 := (blk_cell hres 5).trans rfl
          have z0 := blk_frozen hres 0
          have z1 := blk_frozen hres 1
          have z2 := blk_frozen hres 2
          have z3 := blk_frozen hres 3
          have z4 := blk_frozen hres 4
          have z5 := blk_frozen hres 5
          clear hres hbad
          go_wp2_with (first | (go_at_call 40; (with_reducible refine HPN.out.mono ?_); rintro e1 W1 ⟨rfl, hw⟩; have hw2 := hw.symm; clear hw; subst hw2))
          have kf := six_back HRES.out (.int .i64 0) (.string ⟨#[]⟩) (.int .i64 0) (.int .i64 0) (.slice none 0 0) (.int .i64 0)
          have k0 := (blk_cell kf 0).trans rfl
          have k1 := (blk_cell kf 1).trans rfl
          have k2 := (blk_cell kf 2).trans rfl
          have k3 := (blk_cell kf 3).trans rfl
          have k4 := (blk_cell kf 4).trans rfl
          have k5 := (blk_cell kf 5).trans rfl
          clear kf
          refine bodyPost_ret (v := .tuple #[.agg #[.int .i64 0, .string ⟨#[]⟩, .int .i64 0, .int .i64 0, .slice none 0 0, .int .i64 0], .int .i64 20]) (by simp [results, Tryz.results25, go_sem, k0, k1, k2, k3, k4, k5]) rfl ?_
          exact ARes.err HSTOP.out (six_bel HB2.out _ _ _ _ _ _)
        · obtain ⟨k, rfl⟩ : ∃ k : Nat, f3 = (k : Int) := ⟨f3.toNat, by omega⟩
          obtain ⟨q, hqk⟩ : ∃ q, q + k = n2 := ⟨n2 - k, by omega⟩
          have hlt1 : W.heap.size + 1 < wr.heap.size := blk_lt HA.out.stk.cell
          have hne1 : wr.heap.size ≠ W.heap.size + 1 := by omega
          have HPY := Lib.hid (pop_yes _ _ _ _ _ _ _ HA1.out.stk k q hqk (by omega))
          have HQK := Lib.hid hqk
          have hkn : k ≤ 2000 := by omega
          have HMQ := Lib.hid (show q + k = ms.length by rw [HML.out]; exact hqk)
          have CM0 : ∀ V, Calls Tryz.prog 41 #[.agg #[.int .i64 f0, .string f1, .int .i64 f2, .int .i64 (k : Int)]] V fun e W' => e = .returned (.bool (may ⟨f0, f1, f2, (k : Int)⟩)) ∧ Below V.heap.size V W' := fun V => pmay_calls V ⟨f0, f1, f2, (k : Int)⟩ (Nat.le_trans htx (by decide))
          have CF0 : ∀ V A' c', AM W V W.heap.size A2 n2 c2 q k A' c' ms → Calls Tryz.prog 42 #[.agg #[.int .i64 f0, .string f1, .int .i64 f2, .int .i64 (k : Int)], .slice A' k c'] V fun e W' => e = .returned (.bool (fits ⟨f0, f1, f2, (k : Int)⟩ (trs (ms.drop q)))) ∧ Below V.heap.size V W' := fun V A' c' h => by
            have := fits_calls V ⟨f0, f1, f2, (k : Int)⟩ A' k c' ((ms.drop q).map Mt.tv) (by rw [List.length_map, List.length_drop]; have := h.len; omega) (own_Vv h.row) (by omega) (HA.out.txt HL.out.txt q)
            rw [tv_fst] at this; exact this
          clear hbad
          cases hm : may ⟨f0, f1, f2, (k : Int)⟩ with
          | false =>
            rw [hm] at CM0
            have CM := Lib.hid CM0
            have HSTOP := Lib.hid (show apart o = .error 20 from ap_stop (by rw [HLN.out]; exact HNN.out) (pushes_stop hjl HA.out.run (by rw [HX.out]; exact push_none2 rfl HMQ.out (by rw [hm]; rfl))))
            clear CM0 CF0 hm hqk
            go_wp2_with (first | (go_at_call 40; (with_reducible refine HPY.out.mono ?_); rintro e1 V1 ⟨W1, A', c', hb, rfl, ho, hw⟩; have hAM := HA1.out.pop HQK.out hb ho; rw [← hw] at hAM; have AM1 := Lib.hid hAM; have hnb1 := blk_far (blk_below HNB.out hb) (p := ⟨W.heap.size + 1, 0, none⟩) hne1 (.slice A2 q c2); rw [← hw] at hnb1; have NB1 := Lib.hid hnb1; clear hb ho hw hAM hnb1; have y0 := (blk_cell NB1.out 0).trans rfl; have y1 := (blk_cell NB1.out 1).trans rfl; have y2 := (blk_cell NB1.out 2).trans rfl; have y3 := (blk_cell NB1.out 3).trans rfl; ) | (go_at_call 41; (with_reducible refine (CM.out V1).mono ?_); rintro e1 V2 ⟨rfl, hb⟩; have AM2 := Lib.hid (AM1.out.below hb); have NB2 := Lib.hid (blk_below NB1.out hb); clear hb y0 y1 y2 y3; have y0 := (blk_cell NB2.out 0).trans rfl; have y1 := (blk_cell NB2.out 1).trans rfl; have y2 := (blk_cell NB2.out 2).trans rfl; have y3 := (blk_cell NB2.out 3).trans rfl; have hr := AM2.out.res; have k0 := (blk_cell hr 0).trans rfl; have k1 := (blk_cell hr 1).trans rfl; have k2 := (blk_cell hr 2).trans rfl; have k3 := (blk_cell hr 3).trans rfl; have k4 := (blk_cell hr 4).trans rfl; have k5 := (blk_cell hr 5).trans rfl; have z0 := blk_frozen hr 0; have z1 := blk_frozen hr 1; have z2 := blk_frozen hr 2; have z3 := blk_frozen hr 3; have z4 := blk_frozen hr 4; have z5 := blk_frozen hr 5; clear hr))
            have kf := six_back AM2.out.res (.int .i64 0) (.string ⟨#[]⟩) (.int .i64 0) (.int .i64 0) (.slice none 0 0) (.int .i64 0)
            have k0 := (blk_cell kf 0).trans rfl
            have k1 := (blk_cell kf 1).trans rfl
            have k2 := (blk_cell kf 2).trans rfl
            have k3 := (blk_cell kf 3).trans rfl
            have k4 := (blk_cell kf 4).trans rfl
            have k5 := (blk_cell kf 5).trans rfl
            clear kf
            refine bodyPost_ret (v := .tuple #[.agg #[.int .i64 0, .string ⟨#[]⟩, .int .i64 0, .int .i64 0, .slice none 0 0, .int .i64 0], .int .i64 20]) (by simp [results, Tryz.results25, go_sem, k0, k1, k2, k3, k4, k5]) rfl ?_
            exact ARes.err HSTOP.out (six_bel AM2.out.bel _ _ _ _ _ _)
          | true =>
            cases hf : fits ⟨f0, f1, f2, (k : Int)⟩ (trs (ms.drop q)) with
            | false =>
              rw [hm] at CM0
              rw [hf] at CF0
              have CM := Lib.hid CM0
              have CF := Lib.hid CF0
              have HSTOP := Lib.hid (show apart o = .error 20 from ap_stop (by rw [HLN.out]; exact HNN.out) (pushes_stop hjl HA.out.run (by rw [HX.out]; exact push_none2 rfl HMQ.out (by rw [hm, hf]; rfl))))
              clear CM0 CF0 hm hf hqk
              go_wp2_with (first | (go_at_call 40; (with_reducible refine HPY.out.mono ?_); rintro e1 V1 ⟨W1, A', c', hb, rfl, ho, hw⟩; have hAM := HA1.out.pop HQK.out hb ho; rw [← hw] at hAM; have AM1 := Lib.hid hAM; have hnb1 := blk_far (blk_below HNB.out hb) (p := ⟨W.heap.size + 1, 0, none⟩) hne1 (.slice A2 q c2); rw [← hw] at hnb1; have NB1 := Lib.hid hnb1; clear hb ho hw hAM hnb1; have y0 := (blk_cell NB1.out 0).trans rfl; have y1 := (blk_cell NB1.out 1).trans rfl; have y2 := (blk_cell NB1.out 2).trans rfl; have y3 := (blk_cell NB1.out 3).trans rfl; ) | (go_at_call 41; (with_reducible refine (CM.out V1).mono ?_); rintro e1 V2 ⟨rfl, hb⟩; have AM2 := Lib.hid (AM1.out.below hb); have NB2 := Lib.hid (blk_below NB1.out hb); clear hb y0 y1 y2 y3; have y0 := (blk_cell NB2.out 0).trans rfl; have y1 := (blk_cell NB2.out 1).trans rfl; have y2 := (blk_cell NB2.out 2).trans rfl; have y3 := (blk_cell NB2.out 3).trans rfl; ) | (go_at_call 42; (with_reducible refine (CF.out V2 A' c' AM2.out).mono ?_); rintro e1 V3 ⟨rfl, hb⟩; have AM3 := Lib.hid (AM2.out.below hb); have NB3 := Lib.hid (blk_below NB2.out hb); clear hb y0 y1 y2 y3; have hr := AM3.out.res; have k0 := (blk_cell hr 0).trans rfl; have k1 := (blk_cell hr 1).trans rfl; have k2 := (blk_cell hr 2).trans rfl; have k3 := (blk_cell hr 3).trans rfl; have k4 := (blk_cell hr 4).trans rfl; have k5 := (blk_cell hr 5).trans rfl; have z0 := blk_frozen hr 0; have z1 := blk_frozen hr 1; have z2 := blk_frozen hr 2; have z3 := blk_frozen hr 3; have z4 := blk_frozen hr 4; have z5 := blk_frozen hr 5; clear hr))
              have kf := six_back AM3.out.res (.int .i64 0) (.string ⟨#[]⟩) (.int .i64 0) (.int .i64 0) (.slice none 0 0) (.int .i64 0)
              have k0 := (blk_cell kf 0).trans rfl
              have k1 := (blk_cell kf 1).trans rfl
              have k2 := (blk_cell kf 2).trans rfl
              have k3 := (blk_cell kf 3).trans rfl
              have k4 := (blk_cell kf 4).trans rfl
              have k5 := (blk_cell kf 5).trans rfl
              clear kf
              refine bodyPost_ret (v := .tuple #[.agg #[.int .i64 0, .string ⟨#[]⟩, .int .i64 0, .int .i64 0, .slice none 0 0, .int .i64 0], .int .i64 20]) (by simp [results, Tryz.results25, go_sem, k0, k1, k2, k3, k4, k5]) rfl ?_
              exact ARes.err HSTOP.out (six_bel AM3.out.bel _ _ _ _ _ _)
            | true =>
              rw [hm] at CM0
              rw [hf] at CF0
              have CM := Lib.hid CM0
              have CF := Lib.hid CF0
              have HM := Lib.hid hm
              have HF := Lib.hid hf
              clear CM0 CF0 hm hf hqk
              go_wp2_with (first | (go_at_call 40; (with_reducible refine HPY.out.mono ?_); rintro e1 V1 ⟨W1, A', c', hb, rfl, ho, hw⟩; have hAM := HA1.out.pop HQK.out hb ho; rw [← hw] at hAM; have AM1 := Lib.hid hAM; have hnb1 := blk_far (blk_below HNB.out hb) (p := ⟨W.heap.size + 1, 0, none⟩) hne1 (.slice A2 q c2); rw [← hw] at hnb1; have NB1 := Lib.hid hnb1; clear hb ho hw hAM hnb1; have y0 := (blk_cell NB1.out 0).trans rfl; have y1 := (blk_cell NB1.out 1).trans rfl; have y2 := (blk_cell NB1.out 2).trans rfl; have y3 := (blk_cell NB1.out 3).trans rfl; ) | (go_at_call 41; (with_reducible refine (CM.out V1).mono ?_); rintro e1 V2 ⟨rfl, hb⟩; have AM2 := Lib.hid (AM1.out.below hb); have NB2 := Lib.hid (blk_below NB1.out hb); clear hb y0 y1 y2 y3; have y0 := (blk_cell NB2.out 0).trans rfl; have y1 := (blk_cell NB2.out 1).trans rfl; have y2 := (blk_cell NB2.out 2).trans rfl; have y3 := (blk_cell NB2.out 3).trans rfl; ) | (go_at_call 42; (with_reducible refine (CF.out V2 A' c' AM2.out).mono ?_); rintro e1 V3 ⟨rfl, hb⟩; have AM3 := Lib.hid (AM2.out.below hb); have NB3 := Lib.hid (blk_below NB2.out hb); clear hb y0 y1 y2 y3; have y0 := (blk_cell NB3.out 0).trans rfl; have y1 := (blk_cell NB3.out 1).trans rfl; have y2 := (blk_cell NB3.out 2).trans rfl; have y3 := (blk_cell NB3.out 3).trans rfl; ))
              have hk3 : (k : Int) ≤ 2000 := by omega
              obtain ⟨wo, hwo⟩ : ∃ wo : Nat, wr.heap.size = wo := ⟨_, rfl⟩
              obtain ⟨bs, hbs⟩ : ∃ bs, trs (ms.drop q) = bs := ⟨_, rfl⟩
              have HBS := Lib.hid hbs
              have HWO := Lib.hid hwo
              have HDM := Lib.hid (show deeps bs ≤ 2000 by rw [← hbs]; have := HA.out.dp q; omega)
              have HBL := Lib.hid (show bs.length = k by rw [← hbs, trs_length, List.length_drop]; have := AM3.out.len; omega)
              have hv3 := blk_new V3 (.cells #[.int .i64 f0, .string f1, .int .i64 f2, .int .i64 (k : Int), .slice A' k c', .int .i64 0] 48)
              have HV3 := Lib.hid hv3
              clear hv3 hbs hwo y0 y1 y2 y3 x0 x1 x2 x3
              go_loopg [47] k (fun g v47 W9 => ∃ i : Nat, v47 = .int .i64 (i : Int) ∧ Hid (g = k - i) ∧ Hid (i ≤ k) ∧ Hid (Below V3.heap.size V3 W9) ∧ Hid (W9.heap[V3.heap.size]? = some (.cells #[.int .i64 f0, .string f1, .int .i64 f2, .int .i64 (k : Int), .slice A' k c', .int .i64 ((deeps (bs.take i) : Nat) : Int)] 48 (0, 0))))
              case atStart => exact ⟨0, rfl, Lib.hid rfl, Lib.hid (Nat.zero_le _), Lib.hid ((Below.refl _ V3).alloc (Nat.le_refl _) _), HV3⟩
              case round =>
                obtain ⟨i, rfl, HG2, HI, HB9, HV9⟩ := hrel
                have hik := HI.out
                have AM9 := Lib.hid (AM3.out.below HB9.out)
                have hsz9 := HB9.out.size
                by_cases hi : i < k
                · have d3 : decide ((i : Int) < (k : Int)) = true := by simp; omega
                  have hik2 : (i : Int) < (k : Int) := by omega
                  have hil : i < ((ms.drop q).map Mt.tv).length := by rw [List.length_map, List.length_drop]; have := AM3.out.len; omega
                  have hib : i < bs.length := by rw [HBL.out]; exact hi
                  obtain ⟨b2, off2, hbe2, hvs⟩ := (own_Vv AM9.out.row).some (by omega)
                  subst hbe2
                  obtain ⟨w0, w1, w2, w3, w4, w5⟩ := hvs.at_ i hil
                  have hbi : bs[i]'hib = (((ms.drop q).map Mt.tv)[i]'hil).1 := by
                    have := HBS.out
                    subst this
                    simp only [trs_map, List.getElem_map]; rfl
                  have hds : deeps (bs.take (i + 1)) = max (deeps (bs.take i)) (deep (bs[i]'hib)) := by rw [List.take_succ_eq_append_getElem hib, deeps_append]; simp [deeps]
                  rw [hbi] at hds
                  obtain ⟨⟨⟨⟨g0, g1, g2, g3⟩, tb⟩, ⟨sA, sn, sc⟩⟩, hy⟩ : ∃ y, (((ms.drop q).map Mt.tv)[i]'hil) = y := ⟨_, rfl⟩
                  rw [hy] at w0 w1 w2 w3 w4 w5 hds
                  simp only [Tr.nd] at w0 w1 w2 w3 w4 w5 hds
                  obtain ⟨E, hE⟩ : ∃ E, deep (.mk ⟨g0, g1, g2, g3⟩ tb) = E := ⟨_, rfl⟩
                  rw [hE] at w5 hds
                  obtain ⟨D, hD⟩ : ∃ D, deeps (bs.take i) = D := ⟨_, rfl⟩
                  have hv9 := HV9.out
                  rw [hD] at hv9 hds
                  have hv10 := blk_alloc hv9 (.cells #[.int .i64 g0, .string g1, .int .i64 g2, .int .i64 g3, .slice sA sn sc, .int .i64 (E : Int)] 48)
                  have HV10 := Lib.hid hv10
                  have v0 := (blk_cell hv10 0).trans rfl
                  have v1 := (blk_cell hv10 1).trans rfl
                  have v2 := (blk_cell hv10 2).trans rfl
                  have v3 := (blk_cell hv10 3).trans rfl
                  have v4 := (blk_cell hv10 4).trans rfl
                  have v5 := (blk_cell hv10 5).trans rfl
                  have z5 := blk_frozen hv10 5
                  have HDS := Lib.hid hds
                  clear hvs hbi hds hy hE hD hv9 hv10
                  go_wp2_with fail
                  go_roundg (k - (i + 1))
                  case rel => exact ⟨i + 1, rfl, Lib.hid rfl, Lib.hid hi, Lib.hid ((HB9.out.alloc hsz9 _).setCell (p := ⟨V3.heap.size, 5, none⟩) (Nat.le_refl _) _), Lib.hid (by
                    rw [HDS.out, show ((max D E : Nat) : Int) = max (D : Int) (E : Int) from by omega]
                    exact blk_put HV10.out 5 _ rfl)⟩
                  case measure => have := HG2.out; omega
                · have hie : i = k := by omega
                  subst hie
                  have d3 : decide ((i : Int) < (i : Int)) = false := by simp
                  have hv9 := HV9.out
                  rw [List.take_of_length_le (by rw [HBL.out]; exact Nat.le_refl _)] at hv9
                  obtain ⟨D, hD⟩ : ∃ D, deeps bs = D := ⟨_, rfl⟩
                  have hdm := HDM.out
                  rw [hD] at hv9 hdm
                  have HDD := Lib.hid hD
                  have HV10 := Lib.hid hv9
                  have nb9 := blk_below NB3.out HB9.out
                  have y0 := (blk_cell nb9 0).trans rfl
                  have v0 := (blk_cell hv9 0).trans rfl
                  have v1 := (blk_cell hv9 1).trans rfl
                  have v2 := (blk_cell hv9 2).trans rfl
                  have v3 := (blk_cell hv9 3).trans rfl
                  have v4 := (blk_cell hv9 4).trans rfl
                  have v5 := (blk_cell hv9 5).trans rfl
                  have z5 := blk_frozen hv9 5
                  have hdi : (D : Int) ≤ 2000 := by omega
                  clear hv9 nb9 hD
                  have CP : ∀ (V : World) (d : Int), AM W V W.heap.size A2 n2 c2 q i A' c' ms → d = (deep (.mk ⟨f0, f1, f2, (i : Int)⟩ (trs (ms.drop q))) : Int) → Calls Tryz.prog 43 #[.pointer (some ⟨W.heap.size + 1, 0, none⟩), .agg #[.int .i64 f0, .string f1, .int .i64 f2, .int .i64 (i : Int), .slice A' i c', .int .i64 d]] V (PushRes V (W.heap.size + 1) (W.heap.size + 2) A2 q c2 ((ms.take q).map Mt.tv) (Mt.mk ⟨f0, f1, f2, (i : Int)⟩ ⟨A', i, c'⟩ (ms.drop q)).tv) := fun V d h hd =>
                    push_calls V _ _ A2 q c2 _ h.stk _ f0 f2 (i : Int) d f1 A' i c' (by rw [hd]; rfl) (by have := h.len; have := HML.out; omega) (by have := blk_lt h.stk.cell; omega)
                  have HCP := Lib.hid CP
                  have HAQ := Lib.hid (show (Value.slice A2 q c2).ownBlock = (Value.slice A2 n2 c2).ownBlock by cases A2 <;> rfl)
                  clear CP
                  cases h6 : (f0 == 6) with
                  | true =>
                    have t6 : (f0 != 6) = false := by rw [bne, h6]; rfl
                    have HDP := Lib.hid (show (D : Int) = (deep (.mk ⟨f0, f1, f2, (i : Int)⟩ (trs (ms.drop q))) : Int) by
                      rw [deep, HBS.out, HDD.out, if_pos (by simpa using h6)]; rfl)
                    clear h6
                    go_wp2_with (first | (go_at_call 43; (with_reducible refine (HCP.out _ _ AM9.out HDP.out).mono ?_); rintro e1 V5 ⟨A5, c5, rfl, hs, hk, ho⟩; have AI5 := Lib.hid (AM9.out.push HAQ.out hjl HA.out.run HX.out rfl HM.out HF.out hs hk ho); clear hs hk ho))
                    go_roundg (n - (j + 1))
                    case rel => exact ⟨j + 1, q + 1, c5, A5, _, rfl, Lib.hid rfl, Lib.hid hj, AI5⟩
                    case measure => have := HG.out; omega
                  | false =>
                    have t6 : (f0 != 6) = true := by rw [bne, h6]; rfl
                    have HDP := Lib.hid (show (D : Int) + 1 = (deep (.mk ⟨f0, f1, f2, (i : Int)⟩ (trs (ms.drop q))) : Int) by
                      rw [deep, HBS.out, HDD.out, if_neg (by simpa using h6)]; rfl)
                    have AM10 := Lib.hid (AM3.out.below (HB9.out.setCell (p := ⟨V3.heap.size, 5, none⟩) (Nat.le_refl _) (.int .i64 ((D : Int) + 1))))
                    clear h6
                    go_wp2_with (first | (go_at_call 43; (with_reducible refine (HCP.out _ _ AM10.out HDP.out).mono ?_); rintro e1 V5 ⟨A5, c5, rfl, hs, hk, ho⟩; have AI5 := Lib.hid (AM10.out.push HAQ.out hjl HA.out.run HX.out rfl HM.out HF.out hs hk ho); clear hs hk ho))
                    go_roundg (n - (j + 1))
                    case rel => exact ⟨j + 1, q + 1, c5, A5, _, rfl, Lib.hid rfl, Lib.hid hj, AI5⟩
                    case measure => have := HG.out; omega
      · obtain rfl : j = n := by omega
        have d2 : decide ((j : Int) < (j : Int)) = false := by simp
        have hrun := HA.out.run
        rw [List.take_of_length_le (by rw [HLN.out]; exact Nat.le_refl _)] at hrun
        have hres := HA.out.res
        have HRES := Lib.hid hres
        have HB2 := Lib.hid HA.out.bel
        have x0 := (blk_cell HA.out.stk.cell 0).trans rfl
        have k0 := (blk_cell hres 0).trans rfl
        have z0 := blk_frozen hres 0
        have k1 := (blk_cell hres 1).trans rfl
        have z1 := blk_frozen hres 1
        have k2 := (blk_cell hres 2).trans rfl
        have z2 := blk_frozen hres 2
        have k3 := (blk_cell hres 3).trans rfl
        have z3 := blk_frozen hres 3
        have k4 := (blk_cell hres 4).trans rfl
        have z4 := blk_frozen hres 4
        have k5 := (blk_cell hres 5).trans rfl
        have z5 := blk_frozen hres 5
        clear hres
        by_cases h1 : n2 = 1
        · subst h1
          obtain ⟨m, hms⟩ : ∃ m, ms = [m] := by
            match ms, HML.out with
            | [m], _ => exact ⟨m, rfl⟩
          subst hms
          have t1 : (((1 : Nat) : Int) != 1) = false := rfl
          obtain ⟨b3, off3, hbe3, hvs⟩ := (own_Vv HA.out.stk.own).some (by simp)
          subst hbe3
          obtain ⟨w0, w1, w2, w3, w4, w5⟩ := hvs.at_ 0 (by simp)
          have hm3 := (Holds_all.1 HA.out.hold) m (by simp)
          have HH := Lib.hid hm3
          have HND := Lib.hid (show m.bl.Nodup by have := HA.out.nd; simpa [bls] using this)
          simp only [List.map_cons, List.map_nil, List.getElem_cons_zero, Nat.zero_mul, Nat.add_zero] at w0 w1 w2 w3 w4 w5
          simp only [trs] at hrun
          obtain ⟨E, hE⟩ : ∃ E, deep m.tr = E := ⟨_, rfl⟩
          obtain ⟨⟨f0, f1, f2, f3⟩, hnd⟩ : ∃ x, m.nd = x := ⟨_, rfl⟩
          obtain ⟨⟨sA, sn, sc⟩, hsl⟩ : ∃ x, m.sl = x := ⟨_, rfl⟩
          have HE := Lib.hid hE
          have HND2 := Lib.hid hnd
          have HSL := Lib.hid hsl
          simp only [Mt.tv, tr_nd, hnd, hsl, hE] at w0 w1 w2 w3 w4 w5
          have HAP := Lib.hid (show apart o = if m.tr.nd.f0 ≠ 6 ∧ deep m.tr ≤ 20 then .ok m.tr else .error 20 by unfold apart; rw [if_neg (by rw [HLN.out]; exact HNN.out), hrun])
          have HF0 := Lib.hid (show m.tr.nd.f0 = f0 by rw [tr_nd, hnd])
          clear hvs hm3 hE hnd hsl hrun
          cases h6 : (f0 == 6) with
          | true =>
            have HSTOP := Lib.hid (show apart o = .error 20 by rw [HAP.out, HF0.out, if_neg (by rintro ⟨h, _⟩; exact h (by simpa using h6))])
            go_wp2_with fail
            have kf := six_back HRES.out (.int .i64 0) (.string ⟨#[]⟩) (.int .i64 0) (.int .i64 0) (.slice none 0 0) (.int .i64 0)
            have k0 := (blk_cell kf 0).trans rfl
            have k1 := (blk_cell kf 1).trans rfl
            have k2 := (blk_cell kf 2).trans rfl
            have k3 := (blk_cell kf 3).trans rfl
            have k4 := (blk_cell kf 4).trans rfl
            have k5 := (blk_cell kf 5).trans rfl
            clear kf
            refine bodyPost_ret (v := .tuple #[.agg #[.int .i64 0, .string ⟨#[]⟩, .int .i64 0, .int .i64 0, .slice none 0 0, .int .i64 0], .int .i64 20]) (by simp [results, Tryz.results25, go_sem, k0, k1, k2, k3, k4, k5]) rfl ?_
            exact ARes.err HSTOP.out (six_bel HB2.out _ _ _ _ _ _)
          | false =>
            by_cases hd : 20 < E
            · have t2 : decide ((20 : Int) < (E : Int)) = true := by simp; omega
              have HSTOP := Lib.hid (show apart o = .error 20 by rw [HAP.out, HE.out, if_neg (by rintro ⟨_, h⟩; omega)])
              go_wp2_with fail
              have kf := six_back HRES.out (.int .i64 0) (.string ⟨#[]⟩) (.int .i64 0) (.int .i64 0) (.slice none 0 0) (.int .i64 0)
              have k0 := (blk_cell kf 0).trans rfl
              have k1 := (blk_cell kf 1).trans rfl
              have k2 := (blk_cell kf 2).trans rfl
              have k3 := (blk_cell kf 3).trans rfl
              have k4 := (blk_cell kf 4).trans rfl
              have k5 := (blk_cell kf 5).trans rfl
              clear kf
              refine bodyPost_ret (v := .tuple #[.agg #[.int .i64 0, .string ⟨#[]⟩, .int .i64 0, .int .i64 0, .slice none 0 0, .int .i64 0], .int .i64 20]) (by simp [results, Tryz.results25, go_sem, k0, k1, k2, k3, k4, k5]) rfl ?_
              exact ARes.err HSTOP.out (six_bel HB2.out _ _ _ _ _ _)
            · have t2 : decide ((20 : Int) < (E : Int)) = false := by simp; omega
              have HOK := Lib.hid (show apart o = .ok m.tr by rw [HAP.out, HE.out, HF0.out, if_pos ⟨by simpa using h6, by omega⟩])
              go_wp2_with fail
              have kf := six_back HRES.out (.int .i64 f0) (.string f1) (.int .i64 f2) (.int .i64 f3) (.slice sA sn sc) (.int .i64 (E : Int))
              have HFM := Lib.hid (show Hold _ (W.heap.size + 2) m from Hold.move m HH.out (fun i hi => (show ((((((wr.setCell ⟨W.heap.size, 0, none⟩ (.int .i64 f0)).setCell ⟨W.heap.size, 1, none⟩ (.string f1)).setCell ⟨W.heap.size, 2, none⟩ (.int .i64 f2)).setCell ⟨W.heap.size, 3, none⟩ (.int .i64 f3)).setCell ⟨W.heap.size, 4, none⟩ (.slice sA sn sc)).setCell ⟨W.heap.size, 5, none⟩ (.int .i64 (E : Int))).heap[i]? = wr.heap[i]? from six_far (by have := (Hold.lt m HH.out i hi).1; omega) _ _ _ _ _ _)))
              have k0 := (blk_cell kf 0).trans rfl
              have k1 := (blk_cell kf 1).trans rfl
              have k2 := (blk_cell kf 2).trans rfl
              have k3 := (blk_cell kf 3).trans rfl
              have k4 := (blk_cell kf 4).trans rfl
              have k5 := (blk_cell kf 5).trans rfl
              clear kf
              refine bodyPost_ret (v := .tuple #[.agg #[.int .i64 f0, .string f1, .int .i64 f2, .int .i64 f3, .slice sA sn sc, .int .i64 (E : Int)], .int .i64 0]) (by simp [results, Tryz.results25, go_sem, k0, k1, k2, k3, k4, k5]) rfl ?_
              exact ARes.ok HOK.out (six_bel HB2.out _ _ _ _ _ _) m rfl (Hold.low (by omega) m HFM.out) HND.out HND2.out HSL.out (by rw [HE.out])
        · have t1 : ((n2 : Int) != 1) = true := by rw [bne_iff_ne]; omega
          have HSTOP := Lib.hid (show apart o = .error 20 by
            have hl := HML.out
            unfold apart
            rw [if_neg (by rw [HLN.out]; exact HNN.out), hrun]
            match ms, hl with
            | [], _ => rfl
            | [m], hl => exact absurd hl.symm h1
            | _ :: _ :: _, _ => rfl)
          clear hrun h1
          go_wp2_with fail
          have kf := six_back HRES.out (.int .i64 0) (.string ⟨#[]⟩) (.int .i64 0) (.int .i64 0) (.slice none 0 0) (.int .i64 0)
          have k0 := (blk_cell kf 0).trans rfl
          have k1 := (blk_cell kf 1).trans rfl
          have k2 := (blk_cell kf 2).trans rfl
          have k3 := (blk_cell kf 3).trans rfl
          have k4 := (blk_cell kf 4).trans rfl
          have k5 := (blk_cell kf 5).trans rfl
          clear kf
          refine bodyPost_ret (v := .tuple #[.agg #[.int .i64 0, .string ⟨#[]⟩, .int .i64 0, .int .i64 0, .slice none 0 0, .int .i64 0], .int .i64 20]) (by simp [results, Tryz.results25, go_sem, k0, k1, k2, k3, k4, k5]) rfl ?_
          exact ARes.err HSTOP.out (six_bel HB2.out _ _ _ _ _ _)
end Go.Proofs.YtoefnmhmiphilaaGreatDoor.Tp

namespace Go.Proofs.YtoefnmhmiphilaaGreatDoor.Tp
open Go Go.RowKit Go.Maps Go.Proofs.YtoefnmhmiphilaaGreatDoorW.PrintWords
structure VM (W : World) (base : Nat) (t : Tr) (m : Mt) (f0 : Int) (f1 : ByteArray) (f2 f3 : Int) (sA : Option Addr) (sn sc : Nat) (d : Int) : Prop where
  tr : m.tr = t
  hold : Hold W base m
  nd : m.bl.Nodup
  node : m.nd = ⟨f0, f1, f2, f3⟩
  sl : m.sl = ⟨sA, sn, sc⟩
  deep : d = (deep t : Int)
theorem apart_err_calls (W : World) (A : Option Addr) (n cap : Nat) (o : List Nd) (hL : Lst W A n o) {x : Int} (ha : apart o = .error x) :
    Calls Tryz.prog 25 #[.slice A n cap] W fun e W' => e = .returned (.tuple #[.agg #[.int .i64 0, .string ⟨#[]⟩, .int .i64 0, .int .i64 0, .slice none 0 0, .int .i64 0], .int .i64 x]) ∧ Below W.heap.size W W' :=
  (apart_calls W A n cap o hL).mono fun e W' h => by unfold ARes at h; rw [ha] at h; exact ⟨h.2, h.1⟩
theorem apart_ok_calls (W : World) (A : Option Addr) (n cap : Nat) (o : List Nd) (hL : Lst W A n o) {t : Tr} (ha : apart o = .ok t) :
    Calls Tryz.prog 25 #[.slice A n cap] W fun e W' => ∃ (m : Mt) (f0 : Int) (f1 : ByteArray) (f2 f3 : Int) (sA : Option Addr) (sn sc : Nat) (d : Int), e = .returned (.tuple #[.agg #[.int .i64 f0, .string f1, .int .i64 f2, .int .i64 f3, .slice sA sn sc, .int .i64 d], .int .i64 0]) ∧ VM W' W.heap.size t m f0 f1 f2 f3 sA sn sc d ∧ Below W.heap.size W W' :=
  (apart_calls W A n cap o hL).mono fun e W' h => by
    unfold ARes at h; rw [ha] at h
    obtain ⟨hb, m, h1, h2, h3, h4⟩ := h
    exact ⟨m, m.nd.f0, m.nd.f1, m.nd.f2, m.nd.f3, m.sl.A, m.sl.n, m.sl.c, _, h4, ⟨h1, h2, h3, rfl, rfl, rfl⟩, hb⟩
set_option maxHeartbeats 4000000 in
set_option maxRecDepth 100000 in
theorem pcheck_calls (W : World) (A : Option Addr) (n cap : Nat) (o : List Nd) (hL : Lst W A n o) : Calls Tryz.prog 15 #[.slice A n cap] W fun e W' => e = .returned (.int .i64 (errOf (apart o))) ∧ Below W.heap.size W W' := by
  cases ha : apart o with
  | error x =>
    have CA := Lib.hid (apart_err_calls W A n cap o hL ha)
    clear ha hL
    go_enter Tryz.func15, Tryz.ntmps15
    go_wp2_with (first | (go_at_call 25; (with_reducible refine CA.out.mono ?_); rintro e1 W1 ⟨rfl, hb⟩; have B1 := Lib.hid hb; clear hb))
    go_ret
    exact ⟨rfl, B1.out.alloc B1.out.size _⟩
  | ok t =>
    have CA := Lib.hid (apart_ok_calls W A n cap o hL ha)
    clear ha hL
    go_enter Tryz.func15, Tryz.ntmps15
    go_wp2_with (first | (go_at_call 25; (with_reducible refine CA.out.mono ?_); rintro e1 W1 ⟨m, f0, f1, f2, f3, sA, sn, sc, d, rfl, _, hb⟩; have B1 := Lib.hid hb; clear hb))
    go_ret
    exact ⟨rfl, B1.out.alloc B1.out.size _⟩
structure Rw (W : World) (v : Value) (W' : World) (v' : Value) : Prop where
  kp : Kp (fun k => some k = v.ownBlock) W W'
  own : ∀ k, v'.ownBlock = some k → v.ownBlock = some k ∨ W.heap.size ≤ k
theorem Rw.refl (W : World) (v : Value) : Rw W v W v := ⟨Kp.refl _ _, fun _ h => .inl h⟩
theorem Rw.trans {W W1 W2 : World} {v v1 v2 : Value} (h : Rw W v W1 v1) (k : Rw W1 v1 W2 v2) : Rw W v W2 v2 :=
  ⟨h.kp.trans k.kp (fun i hi ht => by
    rcases h.own i ht.symm with h1 | h1
    · exact h1.symm
    · omega), fun i hi => by
    rcases k.own i hi with h1 | h1
    · exact h.own i h1
    · exact .inr (Nat.le_trans h.kp.size h1)⟩
theorem Rw.alloc {W W1 : World} {v v1 : Value} (h : Rw W v W1 v1) (o : Obj) : Rw W v (W1.alloc o) v1 := ⟨h.kp.alloc o, h.own⟩
theorem Rw.below {W W1 W2 : World} {v v1 : Value} (h : Rw W v W1 v1) (hb : Below W1.heap.size W1 W2) : Rw W v W2 v1 := ⟨h.kp.trans (T := fun _ => False) (Kp.of_below hb) (fun _ _ f => f.elim), h.own⟩
theorem Rw.bel {W W1 : World} {v v1 : Value} (h : Rw W v W1 v1) {B : Nat} (hB : B ≤ W.heap.size) (hv : ∀ k, v.ownBlock = some k → B ≤ k) : Below B W W1 := h.kp.below hB (fun i hi => hv i hi.symm)
theorem hold_far {W : World} {base b2 n : Nat} {m : Mt} {v : Value} {xs : List Value} (h : Hold W base m) (ho : W.ownsRow b2 32 4 v n xs) : ∀ k ∈ m.bl, some k ≠ v.ownBlock := by
  intro k hk e
  obtain ⟨_, _, cells, hc⟩ := Hold.lt m h k hk
  obtain ⟨cells2, hc2⟩ := own_typed ho k e.symm
  rw [hc] at hc2
  injection hc2 with hc2
  injection hc2 with _ hc2
  revert hc2; decide
theorem Hold.rw_ {W W' : World} {base b2 n : Nat} {m : Mt} {v v' : Value} {xs : List Value} (h : Hold W base m) (ho : W.ownsRow b2 32 4 v n xs) (hr : Rw W v W' v') : Hold W' base m :=
  Hold.move m h (fun k hk => hr.kp.block k (Hold.lt m h k hk).2.1 (hold_far h ho k hk))
def NC (m : Mt) : Prop := ∀ (W : World) (base b2 : Nat) (A : Option Addr) (n c : Nat) (os : List Nd) (f0 : Int) (f1 : ByteArray) (f2 f3 : Int) (sA : Option Addr) (sn sc : Nat) (d : Int), Hold W base m → m.nd = ⟨f0, f1, f2, f3⟩ → m.sl = ⟨sA, sn, sc⟩ → W.ownsRow b2 32 4 (.slice A n c) n (encs os) → b2 ≤ W.heap.size → n + (flat m.tr).length ≤ 4294967296 →
  Calls Tryz.prog 27 #[.agg #[.int .i64 f0, .string f1, .int .i64 f2, .int .i64 f3, .slice sA sn sc, .int .i64 d], .slice A n c] W fun e W' => ∃ A' c', e = .returned (.slice A' (n + (flat m.tr).length) c') ∧ W'.ownsRow b2 32 4 (.slice A' (n + (flat m.tr).length) c') (n + (flat m.tr).length) (encs (os ++ flat m.tr)) ∧ Rw W (.slice A n c) W' (.slice A' (n + (flat m.tr).length) c')
set_option maxHeartbeats 8000000 in
set_option maxRecDepth 100000 in
theorem nodes_step (nn : Nd) (s : Sl) (kids : List Mt) (ih : ∀ m ∈ kids, NC m) : NC (.mk nn s kids) := by
  intro W base b2 A n c os f0 f1 f2 f3 sA sn sc d hh hnd hsl ho hb2 hlim
  simp only [Mt.nd] at hnd
  simp only [Mt.sl] at hsl
  subst hnd; subst hsl
  obtain ⟨hsn, hrow, hkids⟩ := hh.out_
  simp only at hsn hrow
  have hfl : (flat (Mt.mk ⟨f0, f1, f2, f3⟩ ⟨sA, sn, sc⟩ kids).tr) = flats (trs kids) ++ [⟨f0, f1, f2, f3⟩] := by rw [Mt.tr, flat]
  rw [hfl] at hlim ⊢
  rw [List.length_append, List.length_singleton] at hlim ⊢
  have hbx := blk_new W (.cells #[.int .i64 f0, .string f1, .int .i64 f2, .int .i64 f3, .slice sA sn sc, .int .i64 d] 48)
  have HBX := Lib.hid hbx
  have HH := Lib.hid hh
  have HO := Lib.hid ho
  have IH := Lib.hid ih
  have HSN := Lib.hid hsn
  have hle := length_flats (trs kids)
  rw [trs_length, ← hsn] at hle
  have hsn2 : sn ≤ 4294967296 := by omega
  have HLIM := Lib.hid hlim
  have hs1 : (W.alloc (.cells #[.int .i64 f0, .string f1, .int .i64 f2, .int .i64 f3, .slice sA sn sc, .int .i64 d] 48)).heap.size = W.heap.size + 1 := Array.size_push _
  have HS1 := Lib.hid hs1
  clear hbx hh ho ih hsn hrow hkids hle hfl hlim hs1
  go_enter Tryz.func27, Tryz.ntmps27
  go_wp2_with fail
  go_loopg [1, 10] sn (fun g v1 v10 W' => ∃ (j N : Nat) (A1 : Option Addr) (c1 : Nat), v1 = .slice A1 N c1 ∧ v10 = .int .i64 (j : Int) ∧ Hid (g = sn - j) ∧ Hid (j ≤ sn) ∧ Hid (N = n + (flats (trs (kids.take j))).length) ∧ Hid (W'.ownsRow b2 32 4 (.slice A1 N c1) N (encs (os ++ flats (trs (kids.take j))))) ∧ Hid (Rw W (.slice A n c) W' (.slice A1 N c1)) ∧ Hid (W'.heap[W.heap.size]? = some (.cells #[.int .i64 f0, .string f1, .int .i64 f2, .int .i64 f3, .slice sA sn sc, .int .i64 d] 48 (0, 0))))
  case atStart => exact ⟨0, n, A, c, rfl, rfl, Lib.hid rfl, Lib.hid (Nat.zero_le _), Lib.hid rfl, Lib.hid (by rw [List.take_zero]; simp only [trs, flats, List.append_nil]; exact own_bel HO.out ((Below.refl _ W).alloc (Nat.le_refl _) _) (Nat.le_refl _)), Lib.hid ((Rw.refl _ _).alloc _), HBX⟩
  case round =>
    obtain ⟨j, N, A1, c1, rfl, rfl, HG, HJ, HN, HR, HW, HB⟩ := hrel
    have hj0 := HJ.out
    have HHW := Lib.hid (HH.out.rw_ HO.out HW.out)
    have hsz := HW.out.kp.size
    obtain ⟨hsn, hrow, hkids⟩ := HHW.out.out_
    simp only at hsn hrow
    by_cases hj : j < sn
    · have d2 : decide ((j : Int) < (sn : Int)) = true := by simp; omega
      have hjm : (j : Int) < (sn : Int) := by omega
      have hjk : j < kids.length := by omega
      have hjl : j < (kids.map Mt.tv).length := by rw [List.length_map]; exact hjk
      obtain ⟨b', off', hbe, hvs⟩ := (own_Vv hrow).some (by omega)
      subst hbe
      obtain ⟨w0, w1, w2, w3, w4, w5⟩ := hvs.at_ j hjl
      obtain ⟨m, hm⟩ : ∃ m, kids[j]'hjk = m := ⟨_, rfl⟩
      have hmm : m ∈ kids := by rw [← hm]; exact List.getElem_mem _
      have e1 : (kids.map Mt.tv)[j]'hjl = m.tv := by rw [List.getElem_map, hm]
      rw [e1] at w0 w1 w2 w3 w4 w5
      have htk : trs (kids.take (j + 1)) = trs (kids.take j) ++ [m.tr] := by rw [List.take_succ_eq_append_getElem hjk, trs_append, hm]; rfl
      have HFT := Lib.hid (show flats (trs (kids.take (j + 1))) = flats (trs (kids.take j)) ++ flat m.tr by rw [htk, flats_append]; simp [flats])
      have hlt2 : (flats (trs (kids.take (j + 1)))).length ≤ (flats (trs kids)).length := by rw [trs_take]; exact flats_take_le _ _
      rw [HFT.out, List.length_append] at hlt2
      obtain ⟨⟨g0, g1, g2, g3⟩, hnd⟩ : ∃ x, m.nd = x := ⟨_, rfl⟩
      obtain ⟨⟨tA, tn, tc⟩, hsl⟩ : ∃ x, m.sl = x := ⟨_, rfl⟩
      obtain ⟨E, hE⟩ : ∃ E, deep m.tr = E := ⟨_, rfl⟩
      simp only [Mt.tv, tr_nd, hnd, hsl, hE] at w0 w1 w2 w3 w4 w5
      have CM : ∀ V, Below wr.heap.size wr V → Calls Tryz.prog 27 #[.agg #[.int .i64 g0, .string g1, .int .i64 g2, .int .i64 g3, .slice tA tn tc, .int .i64 (E : Int)], .slice A1 N c1] V fun e W' => ∃ A' c', e = .returned (.slice A' (N + (flat m.tr).length) c') ∧ W'.ownsRow b2 32 4 (.slice A' (N + (flat m.tr).length) c') (N + (flat m.tr).length) (encs (os ++ flats (trs (kids.take j)) ++ flat m.tr)) ∧ Rw V (.slice A1 N c1) W' (.slice A' (N + (flat m.tr).length) c') := fun V hb =>
        IH.out m hmm V base b2 A1 N c1 _ g0 g1 g2 g3 tA tn tc _ ((hkids m hmm).below hb) hnd hsl (own_bel HR.out hb (Nat.le_refl _)) (by have := hb.size; omega) (by have := HLIM.out; have := HN.out; omega)
      have HCM := Lib.hid CM
      obtain ⟨L, hL⟩ : ∃ L, (flat m.tr).length = L := ⟨_, rfl⟩
      rw [hL] at HCM
      have HL := Lib.hid hL
      clear CM hm e1 hvs hnd hsl hE htk hlt2 hrow hkids hL hsn
      go_wp2_with (first | (go_at_call 27; (with_reducible refine (HCM.out _ ((Below.refl _ wr).alloc (Nat.le_refl _) _)).mono ?_); rintro e1 V1 ⟨A2, c2, rfl, ho, hr⟩; have O1 := Lib.hid ho; have R1 := Lib.hid hr; clear ho hr))
      go_roundg (sn - (j + 1))
      case rel => exact ⟨j + 1, N + L, A2, c2, rfl, rfl, Lib.hid rfl, Lib.hid hj, Lib.hid (by rw [HFT.out, List.length_append, HL.out]; have := HN.out; omega), Lib.hid (by rw [HFT.out, ← List.append_assoc]; exact O1.out), Lib.hid (HW.out.trans (((Rw.refl wr (.slice A1 N c1)).alloc _).trans R1.out)), Lib.hid ((((((Rw.refl wr (.slice A1 N c1)).alloc _).trans R1.out).kp.block W.heap.size (by have := blk_lt HB.out; omega) (own_ne HR.out HB.out (by decide)))).trans HB.out)⟩
      case measure => have := HG.out; omega
    · have d2 : decide ((j : Int) < (sn : Int)) = false := by simp; omega
      have hO := HR.out
      have hN := HN.out
      rw [List.take_of_length_le (by omega)] at hO hN
      have HO2 := Lib.hid hO
      have y0 := (blk_cell HB.out 0).trans rfl
      have y1 := (blk_cell HB.out 1).trans rfl
      have y2 := (blk_cell HB.out 2).trans rfl
      have y3 := (blk_cell HB.out 3).trans rfl
      have HNN := Lib.hid hN
      have HLM := HLIM.out
      have hNl : N + 1 ≤ 4294967296 := by omega
      clear hO hN hsn hrow hkids HLM
      go_wp2_with (first | (at_builtin; refine print_append_cells (w0 := wr) b2 rfl (.tmp 18) (.tmp 21) 22 32 (.agg #[.int .i64 0, .string ⟨#[]⟩, .int .i64 0, .int .i64 0]) 4 40 rfl Tryz.underlying22 info_node rfl (by decide) (by decide) (.slice A1 N c1) N (encs (os ++ flats (trs kids))) (cellsN ⟨f0, f1, f2, f3⟩) rfl rfl rfl ?h1 HO2.out (Below.refl _ _) ?hb ?hl ?_; (case h1 => intro u hu; simp [cellsN] at hu; rcases hu with rfl | rfl | rfl | rfl <;> rfl); (case hb => omega); (case hl => omega); intro v1 w1 ho hbel hgr hat; obtain ⟨gg, c9, rfl⟩ := own_form ho; have O9 := Lib.hid ho; have G9 := Lib.hid hgr; have T9 := Lib.hid hat; clear ho hbel hgr hat))
      go_ret
      have hfl : (n + ((flats (trs kids)).length + 1)) = N + 1 := by have := HNN.out; omega
      rw [hfl, ← List.append_assoc, encs_snoc]
      refine ⟨_, _, rfl, O9.out, HW.out.trans ⟨⟨G9.out.os, G9.out.tape, G9.out.output, G9.out.size, fun i hi hn => G9.out.block i hi (fun e => hn e)⟩, fun i hi => ?_⟩⟩
      rcases T9.out with h1 | ⟨b, h1, h2⟩
      · exact .inl (h1 ▸ hi)
      · rw [h1] at hi; cases hi; exact .inr h2
theorem nodes_calls : ∀ m : Mt, NC m := Mt.ind nodes_step
end Go.Proofs.YtoefnmhmiphilaaGreatDoor.Tp

namespace Go.Proofs.YtoefnmhmiphilaaGreatDoor.Tp
open Go Go.RowKit Go.Maps Go.Proofs.YtoefnmhmiphilaaGreatDoorW.PrintWords
def cmpL (a b : List UInt8) : Int := if Op.bytesLess a b then -1 else if Op.bytesLess b a then 1 else 0
set_option maxHeartbeats 4000000 in
set_option maxRecDepth 100000 in
theorem isnan_calls (W : World) (s : ByteArray) : Calls Tryz.prog 71 #[.string s] W fun e W' => e = .returned (.bool false) ∧ W' = W := by
  have t0 : (s.toList == s.toList) = true := by simp
  have t1 : (s.toList != s.toList) = false := by simp
  go_enter Tryz.func71, Tryz.ntmps71
  go_wp2_with fail
  go_ret
  exact ⟨rfl, rfl⟩
set_option maxHeartbeats 4000000 in
set_option maxRecDepth 100000 in
theorem cmp_calls (W : World) (s t : ByteArray) : Calls Tryz.prog 46 #[.string s, .string t] W fun e W' => e = .returned (.int .i64 (cmpL s.data.toList t.data.toList)) ∧ W' = W := by
  have CN := Lib.hid isnan_calls
  cases h1 : Op.bytesLess s.toList t.toList with
  | true =>
    have HC := Lib.hid (show cmpL s.data.toList t.data.toList = -1 by unfold cmpL; rw [← ByteArray.toList_eq, ← ByteArray.toList_eq, h1]; rfl)
    go_enter Tryz.func46, Tryz.ntmps46
    go_wp2_with (first | (go_at_call 71; (with_reducible refine (CN.out _ _).mono ?_); rintro e1 W1 ⟨rfl, hw⟩; have hw2 := hw.symm; clear hw; subst hw2))
    go_ret
    exact ⟨by rw [HC.out]; rfl, rfl⟩
  | false =>
    cases h2 : Op.bytesLess t.toList s.toList with
    | true =>
      have he : (s.toList == t.toList) = false := by
        rw [beq_eq_false_iff_ne]; intro e; rw [e, bl_irrefl] at h2; cases h2
      have HC := Lib.hid (show cmpL s.data.toList t.data.toList = 1 by unfold cmpL; rw [← ByteArray.toList_eq, ← ByteArray.toList_eq, h1, h2]; rfl)
      go_enter Tryz.func46, Tryz.ntmps46
      go_wp2_with (first | (go_at_call 71; (with_reducible refine (CN.out _ _).mono ?_); rintro e1 W1 ⟨rfl, hw⟩; have hw2 := hw.symm; clear hw; subst hw2))
      go_ret
      exact ⟨by rw [HC.out]; rfl, rfl⟩
    | false =>
      have he : (s.toList == t.toList) = true := by rw [beq_iff_eq]; exact bl_tri _ _ h1 h2
      have HC := Lib.hid (show cmpL s.data.toList t.data.toList = 0 by unfold cmpL; rw [← ByteArray.toList_eq, ← ByteArray.toList_eq, h1, h2]; rfl)
      go_enter Tryz.func46, Tryz.ntmps46
      go_wp2_with (first | (go_at_call 71; (with_reducible refine (CN.out _ _).mono ?_); rintro e1 W1 ⟨rfl, hw⟩; have hw2 := hw.symm; clear hw; subst hw2))
      go_ret
      exact ⟨by rw [HC.out]; rfl, rfl⟩
set_option maxHeartbeats 4000000 in
set_option maxRecDepth 100000 in
theorem closure_calls (W : World) (f0 f2 f3 d g0 g2 g3 e : Int) (f1 g1 : ByteArray) (sA tA : Option Addr) (sn sc tn tc : Nat) : Calls Tryz.prog 45 #[.agg #[.int .i64 f0, .string f1, .int .i64 f2, .int .i64 f3, .slice sA sn sc, .int .i64 d], .agg #[.int .i64 g0, .string g1, .int .i64 g2, .int .i64 g3, .slice tA tn tc, .int .i64 e]] W fun r W' => r = .returned (.int .i64 (cmpL f1.data.toList g1.data.toList)) ∧ W' = (W.alloc (.cells #[.int .i64 f0, .string f1, .int .i64 f2, .int .i64 f3, .slice sA sn sc, .int .i64 d] 48)).alloc (.cells #[.int .i64 g0, .string g1, .int .i64 g2, .int .i64 g3, .slice tA tn tc, .int .i64 e] 48) := by
  have CC := Lib.hid cmp_calls
  go_enter Tryz.func45, Tryz.ntmps45
  go_wp2_with (first | (go_at_call 46; (with_reducible refine (CC.out _ _ _).mono ?_); rintro e1 W1 ⟨rfl, hw⟩; have hw2 := hw.symm; clear hw; subst hw2))
  go_ret
  exact ⟨rfl, rfl⟩
end Go.Proofs.YtoefnmhmiphilaaGreatDoor.Tp
