/- Texts of the claim, merged. -/
import Derived.Test.YtoefnmhmiphilaaGreatDoorM10
import Derived.Shelf.SlSortCmp.NoneTotal
import Derived.Test.YtoefnmhmiphilaaGreatDoorM6
import Derived.Test.YtoefnmhmiphilaaGreatDoorM7
import Derived.Shelf.Strings.BuilderK
import Derived.Test.YtoefnmhmiphilaaGreatDoorM4
set_option linter.unusedVariables false
set_option linter.unusedSimpArgs false
namespace Go.Proofs.YtoefnmhmiphilaaGreatDoor.Tp
open Go Go.RowKit Go.Maps Go.Proofs.YtoefnmhmiphilaaGreatDoorW.PrintWords
def SoC (m : Mt) : Prop := ∀ (W : World) (base : Nat) (f0 : Int) (f1 : ByteArray) (f2 f3 : Int) (sA : Option Addr) (sn sc : Nat) (d : Int), Hold W base m → m.bl.Nodup → okT m.tr = true → m.nd = ⟨f0, f1, f2, f3⟩ → m.sl = ⟨sA, sn, sc⟩ → (flat m.tr).length ≤ 4294967296 →
  Calls Tryz.prog 26 #[.agg #[.int .i64 f0, .string f1, .int .i64 f2, .int .i64 f3, .slice sA sn sc, .int .i64 d]] W fun e W' => e = .returned (.tuple #[]) ∧ ∃ m', SoR m base W W' m'
theorem sortnone_calls (W : World) (p : Option Addr) (c : Nat) (fv : Value) : Calls Tryz.prog 44 #[.slice p 0 c, fv] W fun e W' => e = .returned (.tuple #[]) ∧ W' = W := AnyF.slices_SortFunc_none Tryz.sortL p c fv W
theorem okTs_mem {b : List Tr} (h : okTs b = true) {t : Tr} (ht : t ∈ b) : okT t = true := by rw [okTs_all] at h; exact List.all_eq_true.1 h t ht
set_option maxHeartbeats 8000000 in
set_option maxRecDepth 100000 in
theorem sort_step (nn : Nd) (s : Sl) (kids : List Mt) (ih : ∀ m ∈ kids, SoC m) : SoC (.mk nn s kids) := by
  intro W base f0 f1 f2 f3 sA sn sc d hh hnd hok hn hsl hlim
  simp only [Mt.nd] at hn
  simp only [Mt.sl] at hsl
  subst hn; subst hsl
  obtain ⟨hsn, hrow, hkids⟩ := hh.out_
  simp only at hsn hrow
  have hbx := blk_new W (.cells #[.int .i64 f0, .string f1, .int .i64 f2, .int .i64 f3, .slice sA sn sc, .int .i64 d] 48)
  have HBX := Lib.hid hbx
  have HND := Lib.hid hnd
  have hnd2 := hnd
  rw [Mt.bl] at hnd2
  have HND2 := Lib.hid hnd2
  have HOK := Lib.hid hok
  have HOKS := Lib.hid (show okTs (trs kids) = true by rw [Mt.tr, okT] at hok; simp only [Bool.and_eq_true] at hok; exact hok.2)
  have HBL := Lib.hid (show ∀ k ∈ bls kids, k < W.heap.size from fun k hk => (Holds.lt (Holds_all.2 hkids) k hk).2.1)
  have IH := Lib.hid ih
  have HSN := Lib.hid hsn
  have hle := length_flats (trs kids)
  have hfl : (flat (Mt.mk ⟨f0, f1, f2, f3⟩ ⟨sA, sn, sc⟩ kids).tr) = flats (trs kids) ++ [⟨f0, f1, f2, f3⟩] := by rw [Mt.tr, flat]
  rw [hfl, List.length_append, List.length_singleton] at hlim
  rw [trs_length, ← hsn] at hle
  have hsn2 : sn ≤ 4294967296 := by omega
  have HLIM := Lib.hid hlim
  have HS0 := Lib.hid ((SL.start hh).below ((Below.refl _ W).alloc (Nat.le_refl _) (.cells #[.int .i64 f0, .string f1, .int .i64 f2, .int .i64 f3, .slice sA sn sc, .int .i64 d] 48)))
  clear hbx hh hnd hnd2 hok ih hsn hrow hkids hle hfl hlim
  go_enter Tryz.func26, Tryz.ntmps26
  go_wp2_with fail
  go_loopg [7] sn (fun g v7 W' => ∃ (j : Nat) (ks : List Mt), v7 = .int .i64 (j : Int) ∧ Hid (g = sn - j) ∧ Hid (j ≤ sn) ∧ Hid (SL base ⟨sA, sn, sc⟩ kids ks j W W') ∧ Hid (W'.heap[W.heap.size]? = some (.cells #[.int .i64 f0, .string f1, .int .i64 f2, .int .i64 f3, .slice sA sn sc, .int .i64 d] 48 (0, 0))))
  case atStart => exact ⟨0, [], rfl, Lib.hid rfl, Lib.hid (Nat.zero_le _), HS0, HBX⟩
  case round =>
    obtain ⟨j, ks, rfl, HG, HJ, HS, HB⟩ := hrel
    have hj0 := HJ.out
    have hsn := HSN.out
    have hrow := HS.out.row
    simp only at hsn hrow
    by_cases hj : j < sn
    · have d2 : decide ((j : Int) < (sn : Int)) = true := by simp; omega
      have hjm : (j : Int) < (sn : Int) := by omega
      have hjk : j < kids.length := by omega
      have hjl : j < (kids.map Mt.tv).length := by rw [List.length_map]; exact hjk
      obtain ⟨b', off', hbe, hvs⟩ := (own_Vv hrow).some (by omega)
      subst hbe
      obtain ⟨w0, w1, w2, w3, w4, w5⟩ := hvs.at_ j hjl
      obtain ⟨m, hm⟩ : ∃ m, kids[j]'hjk = m := ⟨_, rfl⟩
      have hmm : m ∈ kids := by rw [← hm]; exact List.getElem_mem _
      have e1 : (kids.map Mt.tv)[j]'hjl = m.tv := by rw [List.getElem_map, hm]
      rw [e1] at w0 w1 w2 w3 w4 w5
      obtain ⟨⟨g0, g1, g2, g3⟩, hnd⟩ : ∃ x, m.nd = x := ⟨_, rfl⟩
      obtain ⟨⟨tA, tn, tc⟩, hsl⟩ : ∃ x, m.sl = x := ⟨_, rfl⟩
      obtain ⟨E, hE⟩ : ∃ E, deep m.tr = E := ⟨_, rfl⟩
      simp only [Mt.tv, tr_nd, hnd, hsl, hE] at w0 w1 w2 w3 w4 w5
      have hmt : m.tr ∈ trs kids := by rw [trs_map]; exact List.mem_map.2 ⟨m, hmm, rfl⟩
      have hmok := okTs_mem HOKS.out hmt
      have hmh : Hold wr base m := Holds_all.1 HS.out.rest m (by rw [List.drop_eq_getElem_cons hjk, hm]; simp)
      have hmn : m.bl.Nodup := by
        have h1 := (List.nodup_append.1 HND2.out).2.1
        have hsp : kids = kids.take j ++ m :: kids.drop (j + 1) := by rw [← hm, ← List.drop_eq_getElem_cons hjk, List.take_append_drop]
        rw [hsp, bls_append, bls] at h1
        exact (List.nodup_append.1 (List.nodup_append.1 h1).2.1).1
      have hml : (flat m.tr).length ≤ 4294967296 := by
        have h1 : (flats (trs kids)).length = (flats (trs (kids.take j))).length + (flats (trs (kids.drop j))).length := by rw [← List.length_append, ← flats_append, ← trs_append, List.take_append_drop]
        rw [List.drop_eq_getElem_cons hjk, hm, trs, flats, List.length_append] at h1
        have := HLIM.out
        omega
      have HM := Lib.hid hm
      have HCM := Lib.hid (IH.out m hmm (wr.alloc (.cells #[.int .i64 g0, .string g1, .int .i64 g2, .int .i64 g3, .slice tA tn tc, .int .i64 (E : Int)] 48)) base g0 g1 g2 g3 tA tn tc (E : Int) (hmh.below ((Below.refl _ wr).alloc (Nat.le_refl _) _)) hmn hmok hnd hsl hml)
      have HMOK := Lib.hid hmok
      have HNB := Lib.hid (show W.heap.size ∉ m.bl from fun hk => by have := HBL.out _ (bls_mem hmm _ hk); omega)
      have HS2 := Lib.hid (HS.out.below ((Below.refl _ wr).alloc (Nat.le_refl _) (.cells #[.int .i64 g0, .string g1, .int .i64 g2, .int .i64 g3, .slice tA tn tc, .int .i64 (E : Int)] 48)))
      have HB2 := Lib.hid (blk_alloc HB.out (.cells #[.int .i64 g0, .string g1, .int .i64 g2, .int .i64 g3, .slice tA tn tc, .int .i64 (E : Int)] 48))
      clear hm e1 hvs hnd hsl hE hrow hmok hmh hmn hml hsn hmt
      go_wp2_with (first | (go_at_call 26; (with_reducible refine HCM.out.mono ?_); rintro e1 V1 ⟨rfl, m1, hr⟩; have R1 := Lib.hid hr; clear hr))
      go_roundg (sn - (j + 1))
      case rel => exact ⟨j + 1, ks ++ [m1], rfl, Lib.hid rfl, Lib.hid hj, Lib.hid (HS2.out.step hjk (by rw [HM.out]; exact R1.out) (by rw [HM.out]; exact HMOK.out) HND2.out), Lib.hid ((R1.out.kp.block _ (blk_lt HB2.out) HNB.out).trans HB2.out)⟩
      case measure => have := HG.out; omega
    · have hje : j = kids.length := by omega
      have d2 : decide ((j : Int) < (sn : Int)) = false := by simp; omega
      have y0 := (blk_cell HB.out 0).trans rfl
      have y4 := (blk_cell HB.out 4).trans rfl
      have hS := HS.out
      rw [hje] at hS
      have HSF := Lib.hid hS
      clear hS
      cases h7 : (f0 == 7) with
      | false =>
        have HR := Lib.hid (HSF.out.done (nn := ⟨f0, f1, f2, f3⟩) hsn (by simpa using h7))
        clear hrow hsn
        go_wp2_with fail
        go_end0
        exact ⟨rfl, _, HR.out⟩
      | true =>
        have H7 := Lib.hid (show f0 = 7 by simpa using h7)
        cases sA with
        | none =>
          have h0 : sn = 0 := by
            have := hrow.2
            rcases this with ⟨_, h⟩ | ⟨g, cap, cur, he, _⟩
            · exact h
            · cases he
          have hk0 : kids = [] := List.eq_nil_of_length_eq_zero (by omega)
          have hks0 : ks = [] := by
            have := congrArg List.length HSF.out.tr
            rw [List.length_map, trs_length, trs_length, hk0] at this
            exact List.eq_nil_of_length_eq_zero this
          have HR := Lib.hid (show SoR (.mk ⟨f0, f1, f2, f3⟩ ⟨none, sn, sc⟩ kids) base W wr (.mk ⟨f0, f1, f2, f3⟩ ⟨none, sn, sc⟩ ks) from by
            have hS := HSF.out
            subst hk0; subst hks0
            exact ⟨by simp [Mt.tr, trs, sortT, sortTs, byKey], rfl, List.Perm.refl _, Hold.mk_ h0 hS.row (by simp), hS.kp.mono (fun i _ hi => by simp [bls] at hi)⟩)
          have HCN := Lib.hid (show ∀ fv, Calls Tryz.prog 44 #[.slice none sn sc, fv] wr fun e W' => e = .returned (.tuple #[]) ∧ W' = wr from by rw [h0]; exact sortnone_calls wr none sc)
          clear h0 hrow hsn hk0 hks0 hje HSF
          go_wp2_with (first | (go_at_call 44; (with_reducible refine (HCN.out _).mono ?_); rintro e1 V1 ⟨rfl, hw⟩; have HW := Lib.hid hw; clear hw))
          go_end0
          exact ⟨rfl, _, by rw [HW.out]; exact HR.out⟩
        | some a =>
          obtain ⟨g, hag⟩ : ∃ g, a = ⟨g, 0, none⟩ := by
            rcases hrow.2 with ⟨h, _⟩ | ⟨g, cap, cur, he, _⟩
            · cases h
            · injection he with he; injection he with he; exact ⟨g, he⟩
          subst hag
          have hkl : ks.length = sn := by
            have := congrArg List.length HSF.out.tr
            rw [List.length_map, trs_length, trs_length, List.take_length] at this
            omega
          have hcl : encVs (ks.map Mt.tv) = encVs (kids.map Mt.tv) := by have := HSF.out.cells; rwa [List.take_length] at this
          have HCS := Lib.hid (sortfunc_calls (W := wr) (base := base) (n := sn) (c := sc) (g := g) ks (by rw [hcl]; exact hrow) hkl (by omega))
          clear hrow hcl hkl hsn hje
          go_wp2_with (first | (go_at_call 44; (with_reducible refine HCS.out.mono ?_); rintro e1 V1 ⟨rfl, l', hp, hw, ho, hg⟩; have HR := Lib.hid (HSF.out.sorted (nn := ⟨f0, f1, f2, f3⟩) HSN.out H7.out HOK.out HND.out hp hw ho hg rfl); clear hp hw ho hg))
          go_end0
          exact ⟨rfl, _, HR.out⟩
theorem sort_calls : ∀ m : Mt, SoC m := Mt.ind sort_step
end Go.Proofs.YtoefnmhmiphilaaGreatDoor.Tp

namespace Go.Proofs.YtoefnmhmiphilaaGreatDoor.Tp
open Go Go.RowKit Go.Maps Go.Proofs.YtoefnmhmiphilaaGreatDoorW.PrintWords
theorem VM.below {W V : World} {base : Nat} {t : Tr} {m : Mt} {f0 : Int} {f1 : ByteArray} {f2 f3 : Int} {sA : Option Addr} {sn sc : Nat} {d : Int} (h : VM W base t m f0 f1 f2 f3 sA sn sc d) (hb : Below W.heap.size W V) : VM V base t m f0 f1 f2 f3 sA sn sc d :=
  ⟨h.tr, h.hold.below hb, h.nd, h.node, h.sl, h.deep⟩
theorem SoR.vm {W V : World} {base : Nat} {t : Tr} {m m' : Mt} {f0 : Int} {f1 : ByteArray} {f2 f3 : Int} {sA : Option Addr} {sn sc : Nat} {d : Int} (hr : SoR m base W V m') (h : VM W base t m f0 f1 f2 f3 sA sn sc d) (hok : okT t = true) : VM V base (sortT t) m' f0 f1 f2 f3 sA sn sc d := by
  refine ⟨by rw [hr.tr, h.tr], hr.hold, hr.bl.nodup_iff.2 h.nd, ?_, by rw [hr.sl, h.sl], by rw [h.deep, (sort_facts t hok).2.1]⟩
  rw [← tr_nd m', hr.tr, nd_sortT, tr_nd, h.node]
theorem VM.sort_calls_ {W : World} {base : Nat} {t : Tr} {m : Mt} {f0 : Int} {f1 : ByteArray} {f2 f3 : Int} {sA : Option Addr} {sn sc : Nat} {d : Int} (h : VM W base t m f0 f1 f2 f3 sA sn sc d) (hok : okT t = true) (hl : (flat t).length ≤ 4294967296) :
    Calls Tryz.prog 26 #[.agg #[.int .i64 f0, .string f1, .int .i64 f2, .int .i64 f3, .slice sA sn sc, .int .i64 d]] W fun e W' => e = .returned (.tuple #[]) ∧ ∃ m', VM W' base (sortT t) m' f0 f1 f2 f3 sA sn sc d ∧ Kp (fun k => k ∈ m.bl) W W' :=
  (sort_calls m W base f0 f1 f2 f3 sA sn sc d h.hold h.nd (by rw [h.tr]; exact hok) h.node h.sl (by rw [h.tr]; exact hl)).mono fun e W' ⟨he, m', hr⟩ => ⟨he, m', hr.vm h hok, hr.kp⟩
theorem VM.nodes_calls_ {W : World} {base b2 : Nat} {t : Tr} {m : Mt} {f0 : Int} {f1 : ByteArray} {f2 f3 : Int} {sA : Option Addr} {sn sc : Nat} {d : Int} (h : VM W base t m f0 f1 f2 f3 sA sn sc d) (hb2 : b2 ≤ W.heap.size) {k : Nat} (hk : (flat t).length = k) (hl : k ≤ 4294967296) :
    Calls Tryz.prog 27 #[.agg #[.int .i64 f0, .string f1, .int .i64 f2, .int .i64 f3, .slice sA sn sc, .int .i64 d], .slice none 0 0] W fun e W' => ∃ g c, e = .returned (.slice (some ⟨g, 0, none⟩) k c) ∧ W'.ownsRow b2 32 4 (.slice (some ⟨g, 0, none⟩) k c) k (encs (flat t)) ∧ Below W.heap.size W W' :=
  (nodes_calls m W base W.heap.size none 0 0 [] f0 f1 f2 f3 sA sn sc d h.hold h.node h.sl (own_nil _ _ _ _) (Nat.le_refl _) (by rw [h.tr, hk]; omega)).mono fun e W' ⟨A', c', he, ho, hr⟩ => by
    rw [h.tr, hk, Nat.zero_add] at he ho hr
    have h0 : 0 < (flat t).length := List.length_pos_iff.2 (flat_ne t)
    obtain ⟨k', rfl⟩ : ∃ k', k = k' + 1 := ⟨k - 1, by omega⟩
    obtain ⟨g, c, hv⟩ := own_form ho
    injection hv with a1 a2 a3
    subst a1; subst a3
    refine ⟨g, c', he, own_lower ho hb2, hr.bel (Nat.le_refl _) (fun i hi => by simp [Value.ownBlock] at hi)⟩
set_option maxHeartbeats 4000000 in
set_option maxRecDepth 100000 in
theorem psort_calls (W : World) (A : Option Addr) (n cap : Nat) (o : List Nd) (hL : Lst W A n o) : Calls Tryz.prog 12 #[.slice A n cap] W (SRes o W) := by
  cases ha : apart o with
  | error x =>
    have CA := Lib.hid (apart_err_calls W A n cap o hL ha)
    have hx := apart_code ha
    have HA := Lib.hid ha
    clear ha hL
    go_enter Tryz.func12, Tryz.ntmps12
    go_wp2_with (first | (go_at_call 25; (with_reducible refine CA.out.mono ?_); rintro e1 W1 ⟨rfl, hb⟩; have B1 := Lib.hid hb; clear hb))
    go_ret2
    exact SRes.mk_err HA.out (B1.out.alloc B1.out.size _)
  | ok t =>
    have CA := Lib.hid (apart_ok_calls W A n cap o hL ha)
    obtain ⟨ha1, ha2, ha3, _, _⟩ := apart_ok.1 ha
    have HA := Lib.hid ha
    have HLN := Lib.hid hL.len
    have HFL := Lib.hid (show (flat t).length = n by rw [ha2]; exact hL.len)
    have HOK := Lib.hid ha3
    have HSL := Lib.hid (show (flat (sortT t)).length = n by rw [flat_sort_len, ha2]; exact hL.len)
    have hn : n ≤ 4294967296 := hL.few
    clear ha hL ha1 ha2 ha3
    go_enter Tryz.func12, Tryz.ntmps12
    go_wp2_with (first | (go_at_call 25; (with_reducible refine CA.out.mono ?_); rintro e1 W1 ⟨m, f0, f1, f2, f3, sA, sn, sc, d, rfl, hv, hb⟩; have V1 := Lib.hid hv; have B1 := Lib.hid hb; clear hb hv) | (go_at_call 26; (with_reducible refine ((V1.out.below ((Below.refl _ W1).alloc (Nat.le_refl _) _)).sort_calls_ HOK.out (by rw [HFL.out]; exact hn)).mono ?_); rintro e1 W2 ⟨rfl, m2, hv, hk⟩; have V2 := Lib.hid hv; have K2 := Lib.hid hk; have hbk := (hk.block W1.heap.size (by simp) (fun hm => by have := (Hold.lt m V1.out.hold _ hm).2.1; omega)).trans (blk_new W1 _); have y0 := (blk_cell hbk 0).trans rfl; have y1 := (blk_cell hbk 1).trans rfl; have y2 := (blk_cell hbk 2).trans rfl; have y3 := (blk_cell hbk 3).trans rfl; have y4 := (blk_cell hbk 4).trans rfl; have y5 := (blk_cell hbk 5).trans rfl; have B2 := Lib.hid ((B1.out.alloc B1.out.size _).trans (hk.below (by have := B1.out.size; simp; omega) (fun i hi => (Hold.lt m V1.out.hold i hi).1))); clear hv hk hbk) | (go_at_call 27; (with_reducible refine (V2.out.nodes_calls_ B2.out.size HSL.out hn).mono ?_); rintro e1 W3 ⟨g, c, rfl, ho, hb⟩; have O3 := Lib.hid ho; have B3 := Lib.hid (B2.out.trans (hb.mono B2.out.size)); clear ho hb))
    go_ret2
    exact SRes.mk_ok HA.out HLN.out O3.out B3.out
end Go.Proofs.YtoefnmhmiphilaaGreatDoor.Tp

namespace Go.Proofs.YtoefnmhmiphilaaGreatDoor.Tp
open Go Go.RowKit Go.Maps Go.Proofs.YtoefnmhmiphilaaGreatDoorW.PrintWords
set_option maxHeartbeats 8000000 in
set_option maxRecDepth 100000 in
theorem equalNe_calls (W : World) (A1 A2 : Option Addr) (o1 o2 : List Nd) (n1 n2 c1 c2 : Nat) (h1 : o1.length = n1) (h2 : o2.length = n2) (hne : n1 ≠ n2) :
    Calls Tryz.prog 36 #[.slice A1 n1 c1, .slice A2 n2 c2] W fun e W' => e = .returned (.bool (decide (o1 = o2))) ∧ ∃ n, W' = W.drewN n := by
  rw [decide_eq_false (fun e => hne (by rw [← h1, ← h2, e]))]
  have d1 : ((n1 : Int) != (n2 : Int)) = true := by simp; omega
  clear h1 h2 hne
  go_enter Tryz.func36, Tryz.ntmps36
  go_wp2_with fail
  go_ret
  exact ⟨rfl, 0, rfl⟩
set_option maxHeartbeats 8000000 in
set_option maxRecDepth 100000 in
theorem equalEq_calls (W : World) (b1 b2 s1 s2 : Nat) (o1 o2 : List Nd) (nn c1 c2 : Nat) (hn1 : o1.length = nn) (hn2 : o2.length = nn) (h1 : Ns W b1 s1 o1) (h2 : Ns W b2 s2 o2) (hl : nn ≤ 4294967296) :
    Calls Tryz.prog 36 #[.slice (some ⟨b1, s1, none⟩) nn c1, .slice (some ⟨b2, s2, none⟩) nn c2] W fun e W' => e = .returned (.bool (decide (o1 = o2))) ∧ ∃ n, W' = W.drewN n := by
  have H1 := Lib.hid h1
  have H2 := Lib.hid h2
  have HL := Lib.hid hl
  have HN1 := Lib.hid hn1
  have HN2 := Lib.hid hn2
  clear h1 h2 hl hn1 hn2
  have d0 : ((nn : Int) != (nn : Int)) = false := by simp
  go_enter Tryz.func36, Tryz.ntmps36
  go_wp2_with fail
  go_loopg [13] nn (fun k v13 W' => ∃ q : Nat, v13 = .int .i64 (q : Int) ∧ Hid (k = nn - q) ∧ Hid (q ≤ nn) ∧ Hid (o1.take q = o2.take q) ∧ Hid (∃ n, W' = W.drewN n))
  case atStart => exact ⟨0, rfl, Lib.hid rfl, Lib.hid (Nat.zero_le _), Lib.hid rfl, Lib.hid ⟨0, rfl⟩⟩
  case round =>
    obtain ⟨q, rfl, HK, HQ, HT, HW⟩ := hrel
    by_cases hlt : q < nn
    · have d1 : decide ((q : Int) < (nn : Int)) = true := by simp; omega
      have l1 : q < o1.length := by rw [HN1.out]; exact hlt
      have l2 : q < o2.length := by rw [HN2.out]; exact hlt
      obtain ⟨x0, x1, x2, x3⟩ := (show Ns wr b1 s1 o1 by obtain ⟨n, e⟩ := HW.out; rw [e]; exact H1.out.drewN n).at_ q l1
      obtain ⟨y0, y1, y2, y3⟩ := (show Ns wr b2 s2 o2 by obtain ⟨n, e⟩ := HW.out; rw [e]; exact H2.out.drewN n).at_ q l2
      obtain ⟨x, hx⟩ : ∃ x, o1[q]'l1 = x := ⟨_, rfl⟩
      obtain ⟨y, hy⟩ : ∃ y, o2[q]'l2 = y := ⟨_, rfl⟩
      rw [hx] at x0 x1 x2 x3
      rw [hy] at y0 y1 y2 y3
      have HX := Lib.hid hx
      have HY := Lib.hid hy
      clear hx hy
      by_cases hxy : x = y
      · subst hxy
        go_wp2_with fail
        go_quiet (fail)
        go_wp2
        have hw : wrap64 ((q : Int) + 1) = ((q + 1 : Nat) : Int) := by have := HL.out; unfold wrap64; omega
        rw [hw]
        go_roundg (nn - (q + 1))
        case rel => exact ⟨q + 1, rfl, Lib.hid rfl, Lib.hid hlt, Lib.hid (by rw [List.take_succ_eq_append_getElem l1, List.take_succ_eq_append_getElem l2, HT.out, HX.out, HY.out]), Lib.hid (by obtain ⟨n, e⟩ := HW.out; exact ⟨n + nq, by rw [e]; simp [World.drewN, Nat.add_assoc]⟩)⟩
        case measure => have := HK.out; omega
      · have HNE := Lib.hid (show o1 ≠ o2 by
          intro e
          have h1 : o1[q]? = o2[q]? := by rw [e]
          rw [List.getElem?_eq_getElem l1, List.getElem?_eq_getElem l2, HX.out, HY.out] at h1
          exact hxy (Option.some.inj h1))
        obtain ⟨a, s, e, k⟩ := x
        obtain ⟨a', s', e', k'⟩ := y
        simp only at x0 x1 x2 x3 y0 y1 y2 y3
        have HC := Lib.hid hxy
        clear hxy
        by_cases q0 : a = a'
        · subst q0
          by_cases q1 : s = s'
          · subst q1
            by_cases q2 : e = e'
            · subst q2
              have q3 : (k == k') = false := by
                cases h : k == k' with
                | false => rfl
                | true => exact absurd (by rw [eq_of_beq h]) HC.out
              go_wp2_with fail
              go_quiet (fail)
              go_wp2
              go_ret
              exact ⟨by rw [decide_eq_false HNE.out]; rfl, by obtain ⟨n, e⟩ := HW.out; exact ⟨n + nq, by rw [e]; simp [World.drewN, Nat.add_assoc]⟩⟩
            · have q3 : (e == e') = false := by simp [q2]
              clear q2
              go_wp2_with fail
              go_quiet (fail)
              go_wp2
              go_ret
              exact ⟨by rw [decide_eq_false HNE.out]; rfl, by obtain ⟨n, e⟩ := HW.out; exact ⟨n + nq, by rw [e]; simp [World.drewN, Nat.add_assoc]⟩⟩
          · have q3 : (s.toList == s'.toList) = false := by
              cases h : s.toList == s'.toList with
              | false => rfl
              | true =>
                have h := eq_of_beq h
                rw [ByteArray.toList_eq, ByteArray.toList_eq] at h
                refine absurd ?_ q1
                obtain ⟨⟨u⟩⟩ := s
                obtain ⟨⟨v⟩⟩ := s'
                rw [show u = v from h]
            clear q1
            go_wp2_with fail
            go_quiet (fail)
            go_wp2
            go_ret
            exact ⟨by rw [decide_eq_false HNE.out]; rfl, by obtain ⟨n, e⟩ := HW.out; exact ⟨n + nq, by rw [e]; simp [World.drewN, Nat.add_assoc]⟩⟩
        · have q3 : (a == a') = false := by simp [q0]
          clear q0
          go_wp2_with fail
          go_quiet (fail)
          go_wp2
          go_ret
          exact ⟨by rw [decide_eq_false HNE.out]; rfl, by obtain ⟨n, e⟩ := HW.out; exact ⟨n + nq, by rw [e]; simp [World.drewN, Nat.add_assoc]⟩⟩
    · have d1 : decide ((q : Int) < (nn : Int)) = false := by simp; omega
      have HEQ := Lib.hid (show o1 = o2 by have := HT.out; rwa [List.take_of_length_le (by rw [HN1.out]; omega), List.take_of_length_le (by rw [HN2.out]; omega)] at this)
      go_wp2_with fail
      go_ret
      exact ⟨by rw [decide_eq_true HEQ.out]; rfl, HW.out⟩
set_option maxHeartbeats 4000000 in
set_option maxRecDepth 100000 in
theorem equal0_calls (W : World) (A1 A2 : Option Addr) (c1 c2 : Nat) :
    Calls Tryz.prog 36 #[.slice A1 0 c1, .slice A2 0 c2] W fun e W' => e = .returned (.bool true) ∧ ∃ n, W' = W.drewN n := by
  go_enter Tryz.func36, Tryz.ntmps36
  go_wp2_with fail
  go_loopg [13] 0 (fun k v13 W' => v13 = .int .i64 0 ∧ Hid (W' = W))
  case atStart => exact ⟨rfl, Lib.hid rfl⟩
  case round =>
    obtain ⟨rfl, HW⟩ := hrel
    go_wp2_with fail
    go_ret
    exact ⟨rfl, 0, HW.out⟩
theorem pequal_calls (W : World) (A1 A2 : Option Addr) (o1 o2 : List Nd) (n1 n2 c1 c2 : Nat) (hn1 : o1.length = n1) (hn2 : o2.length = n2) (h1 : Nv W A1 o1) (h2 : Nv W A2 o2) (hl : n1 ≤ 4294967296) :
    Calls Tryz.prog 36 #[.slice A1 n1 c1, .slice A2 n2 c2] W fun e W' => e = .returned (.bool (decide (o1 = o2))) ∧ ∃ n, W' = W.drewN n := by
  by_cases hne : n1 = n2
  · subst hne
    cases n1 with
    | zero =>
      rw [List.eq_nil_of_length_eq_zero hn1, List.eq_nil_of_length_eq_zero hn2]
      exact equal0_calls W A1 A2 c1 c2
    | succ n =>
      obtain ⟨b1, s1, rfl, g1⟩ := h1.some (by omega)
      obtain ⟨b2, s2, rfl, g2⟩ := h2.some (by omega)
      exact equalEq_calls W b1 b2 s1 s2 o1 o2 (n + 1) c1 c2 hn1 hn2 g1 g2 hl
  · exact equalNe_calls W A1 A2 o1 o2 n1 n2 c1 c2 hn1 hn2 hne
end Go.Proofs.YtoefnmhmiphilaaGreatDoor.Tp

namespace Go.Proofs.YtoefnmhmiphilaaGreatDoor.Tp
open Go Go.RowKit Go.Maps Go.Proofs.YtoefnmhmiphilaaGreatDoorW.PrintWords
theorem psort_err (W : World) (A : Option Addr) (n cap : Nat) (o : List Nd) (hL : Lst W A n o) {x : Int} (ha : apart o = .error x) : Calls Tryz.prog 12 #[.slice A n cap] W fun e W' => e = .returned (.tuple #[.slice none 0 0, .int .i64 x]) ∧ Below W.heap.size W W' :=
  (psort_calls W A n cap o hL).mono fun e W' h => by unfold SRes at h; rw [ha] at h; exact ⟨h.2, h.1⟩
theorem psort_ok (W : World) (A : Option Addr) (n cap : Nat) (o : List Nd) (hL : Lst W A n o) {t : Tr} (ha : apart o = .ok t) : Calls Tryz.prog 12 #[.slice A n cap] W fun e W' => ∃ g c, e = .returned (.tuple #[.slice (some ⟨g, 0, none⟩) n c, .int .i64 0]) ∧ W'.ownsRow W.heap.size 32 4 (.slice (some ⟨g, 0, none⟩) n c) n (encs (flat (sortT t))) ∧ Below W.heap.size W W' :=
  (psort_calls W A n cap o hL).mono fun e W' h => by
    have hl := hL.len
    unfold SRes at h; rw [ha] at h
    obtain ⟨hb, g, c, h1, h2⟩ := h
    rw [hl] at h1 h2
    exact ⟨g, c, h1, h2, hb⟩
set_option maxHeartbeats 4000000 in
set_option maxRecDepth 100000 in
theorem psame_calls (W : World) (A1 A2 : Option Addr) (n1 n2 c1 c2 : Nat) (o1 o2 : List Nd) (hL1 : Lst W A1 n1 o1) (hL2 : Lst W A2 n2 o2) :
    Calls Tryz.prog 22 #[.slice A1 n1 c1, .slice A2 n2 c2] W fun e W' => e = .returned (.bool (sameOf o1 o2)) ∧ Below W.heap.size W W' := by
  cases ha : apart o1 with
  | error x =>
    have C1 := Lib.hid (psort_err W A1 n1 c1 o1 hL1 ha)
    have hx : (x == 0) = false := by have := apart_code ha; rw [bne, Bool.not_eq_true'] at this; exact this
    rw [show sameOf o1 o2 = false by unfold sameOf; rw [ha]]
    cases hc : apart o2 with
    | error y =>
      have C2 := Lib.hid (fun W1 (hb : Below W.heap.size W W1) => psort_err W1 A2 n2 c2 o2 (hL2.below hb (Nat.le_refl _)) hc)
      clear hL1 hL2 ha hc
      go_enter Tryz.func22, Tryz.ntmps22
      go_wp2_with (first | (go_at_call 12; first | ((with_reducible refine C1.out.mono ?_); rintro e1 W1 ⟨rfl, hb⟩; have B1 := Lib.hid hb; clear hb C1) | ((with_reducible refine (C2.out _ B1.out).mono ?_); rintro e1 W2 ⟨rfl, hb⟩; have B2 := Lib.hid (B1.out.trans (hb.mono B1.out.size)); clear hb)))
      go_ret
      exact ⟨rfl, B2.out⟩
    | ok u =>
      have C2 := Lib.hid (fun W1 (hb : Below W.heap.size W W1) => psort_ok W1 A2 n2 c2 o2 (hL2.below hb (Nat.le_refl _)) hc)
      clear hL1 hL2 ha hc
      go_enter Tryz.func22, Tryz.ntmps22
      go_wp2_with (first | (go_at_call 12; first | ((with_reducible refine C1.out.mono ?_); rintro e1 W1 ⟨rfl, hb⟩; have B1 := Lib.hid hb; clear hb C1) | ((with_reducible refine (C2.out _ B1.out).mono ?_); rintro e1 W2 ⟨g, c, rfl, ho, hb⟩; have B2 := Lib.hid (B1.out.trans (hb.mono B1.out.size)); clear ho hb)))
      go_ret
      exact ⟨rfl, B2.out⟩
  | ok t =>
    have C1 := Lib.hid (psort_ok W A1 n1 c1 o1 hL1 ha)
    cases hc : apart o2 with
    | error x =>
      have C2 := Lib.hid (fun W1 (hb : Below W.heap.size W W1) => psort_err W1 A2 n2 c2 o2 (hL2.below hb (Nat.le_refl _)) hc)
      have hx : (x == 0) = false := by have := apart_code hc; rw [bne, Bool.not_eq_true'] at this; exact this
      rw [show sameOf o1 o2 = false by unfold sameOf; rw [ha, hc]]
      clear hL1 hL2 ha hc
      go_enter Tryz.func22, Tryz.ntmps22
      go_wp2_with (first | (go_at_call 12; first | ((with_reducible refine C1.out.mono ?_); rintro e1 W1 ⟨g, c, rfl, ho, hb⟩; have B1 := Lib.hid hb; clear ho hb C1) | ((with_reducible refine (C2.out _ B1.out).mono ?_); rintro e1 W2 ⟨rfl, hb⟩; have B2 := Lib.hid (B1.out.trans (hb.mono B1.out.size)); clear hb)))
      go_ret
      exact ⟨rfl, B2.out⟩
    | ok u =>
      have C2 := Lib.hid (fun W1 (hb : Below W.heap.size W W1) => psort_ok W1 A2 n2 c2 o2 (hL2.below hb (Nat.le_refl _)) hc)
      rw [show sameOf o1 o2 = decide (flat (sortT t) = flat (sortT u)) by unfold sameOf; rw [ha, hc]]
      obtain ⟨_, g2, g3, _, _⟩ := apart_ok.1 ha
      obtain ⟨_, k2, k3, _, _⟩ := apart_ok.1 hc
      have s1 : (flat (sortT t)).length = n1 := by rw [flat_sort_len, g2, hL1.len]
      have s2 : (flat (sortT u)).length = n2 := by rw [flat_sort_len, k2, hL2.len]
      have hfew := hL1.few
      have CE := Lib.hid (fun (W1 : World) (A1 A2 : Option Addr) (c1 c2 : Nat) (h1 : Nv W1 A1 (flat (sortT t))) (h2 : Nv W1 A2 (flat (sortT u))) => pequal_calls W1 A1 A2 _ _ n1 n2 c1 c2 s1 s2 h1 h2 hfew)
      have HS1 := Lib.hid s1
      have HS2 := Lib.hid s2
      clear hL1 hL2 ha hc g2 g3 k2 k3 s1 s2 hfew
      go_enter Tryz.func22, Tryz.ntmps22
      go_wp2_with (first | (go_at_call 12; first | ((with_reducible refine C1.out.mono ?_); rintro e1 W1 ⟨g, c, rfl, ho, hb⟩; have B1 := Lib.hid hb; have O1 := Lib.hid ho; clear ho hb C1) | ((with_reducible refine (C2.out _ B1.out).mono ?_); rintro e1 W2 ⟨g5, c5, rfl, ho, hb⟩; have O2 := Lib.hid (own_Nv (own_bel O1.out hb (Nat.le_refl _)) HS1.out); have O3 := Lib.hid (own_Nv ho HS2.out); have B2 := Lib.hid (B1.out.trans (hb.mono B1.out.size)); clear ho hb)) | (go_at_call 36; (with_reducible refine (CE.out _ _ _ _ _ O2.out O3.out).mono ?_); rintro e1 W4 ⟨rfl, nq, hw⟩; have B4 := Lib.hid (show Below W.heap.size W W4 by rw [hw]; exact belN B2.out _); clear hw))
      go_ret
      exact ⟨rfl, B4.out⟩
end Go.Proofs.YtoefnmhmiphilaaGreatDoor.Tp

namespace Go.Proofs.YtoefnmhmiphilaaGreatDoor.Tp
open Go Go.RowKit Go.Maps Go.Proofs.YtoefnmhmiphilaaGreatDoorW.PrintWords
def BF (b : Nat) (acc : List UInt8) (W : World) : Prop := Lib.IsBuilderF 55 5 b b (Lib.byteCells acc) W
structure Wr (b : Nat) (W W' : World) : Prop where
  bel : Below b W W'
  kept : Lib.OthersKept 5 (some b) W W'
theorem Wr.refl (b : Nat) (W : World) : Wr b W W := ⟨Below.refl _ _, Lib.OthersKept.refl _ _ _⟩
theorem Wr.trans {b : Nat} {W V U : World} (h : Wr b W V) (k : Wr b V U) : Wr b W U := ⟨h.bel.trans k.bel, h.kept.trans k.kept⟩
theorem Wr.of_below {b : Nat} {W V : World} (h : Below W.heap.size W V) (hb : b ≤ W.heap.size) : Wr b W V :=
  ⟨h.mono hb, fun k _ hk _ _ => (h.block k (blk_lt hk)).trans hk⟩
theorem Wr.blk {b : Nat} {W V : World} (h : Wr b W V) {k : Nat} {cs : Array Value} {t : TypeId} {f : Nat × Nat} (hk : W.heap[k]? = some (.cells cs t f)) (hb : k ≠ b) (ht : t ≠ 5) : V.heap[k]? = some (.cells cs t f) :=
  h.kept k _ hk (fun e => hb (by injection e)) (fun c fz e => ht (by injection e))
theorem BF.blk {b : Nat} {acc : List UInt8} {W : World} (h : BF b acc W) : ∃ p v, W.heap[b]? = some (.cells #[p, v] 55 (0, 0)) := by
  rcases h with ⟨_, v, h, _⟩ | ⟨_, v, h, _⟩ <;> exact ⟨_, v, h⟩
theorem BF.below {b : Nat} {acc : List UInt8} {W V : World} (h : BF b acc W) (hb : Below W.heap.size W V) : BF b acc V := by
  have hg : W.grownBy V none := ⟨hb.os, hb.tape, hb.output, hb.size, fun k hk _ => hb.block k hk⟩
  have key : ∀ v : Value, v.ownBlock = none ∨ v.ownBlock ≠ (none : Option Nat) := fun v => by cases h : v.ownBlock <;> simp
  rcases h with ⟨h1, v, h2, h3, h4⟩ | ⟨h1, v, h2, h3, h4⟩
  · exact .inl ⟨h1, v, blk_below h2 hb, h3.kept hg (key v), h4⟩
  · exact .inr ⟨h1, v, blk_below h2 hb, h3.kept hg (key v), h4⟩
theorem Hold.wr {b base : Nat} {acc : List UInt8} {W V : World} {m : Mt} (h : Hold W base m) (hB : BF b acc W) (hw : Wr b W V) : Hold V base m :=
  Hold.move m h (fun k hk => by
    obtain ⟨_, _, cells, hc⟩ := Hold.lt m h k hk
    obtain ⟨p, v, hb⟩ := hB.blk
    rw [hc]
    exact hw.blk hc (fun e => by rw [e, hb] at hc; injection hc with hc; injection hc with _ hc; revert hc; decide) (by decide))
theorem writeK (b : Nat) (acc x : List UInt8) (s' : ByteArray) (hx : s'.data.toList = x) (W : World) (h : BF b acc W) (hl : acc.length + x.length ≤ 1099511627776) (hb : b + 1 ≤ W.heap.size) :
    Calls Tryz.prog 52 #[.pointer (some ⟨b, 0, none⟩), .string s'] W fun e W' => (∃ v, e = .returned v) ∧ BF b (acc ++ x) W' ∧ Wr b W W' := by
  have hs : s'.size = x.length := by rw [← hx]; simp
  refine (Go.Proofs.Any.Builder_WriteString_k Bld.lays166 Bld.extra b b (Lib.byteCells acc) s' W h (by rw [Lib.byteCells_length, hs]; omega) (by omega)).mono ?_
  rintro e W' ⟨rfl, h1, h2, h3⟩
  refine ⟨⟨_, rfl⟩, .inr ?_, h2, h3⟩
  have : Lib.byteCells acc ++ Lib.strCells s' = Lib.byteCells (acc ++ x) := by rw [Lib.strCells_eq, hx]; simp [Lib.byteCells]
  rw [← this]; exact h1
def PowD (w : World) : Prop := Lib.TabIs Tryz.prog w "internal/strconv.uint64pow10" .u64 Lib.pow10Tab
theorem PowD.below {w w' : World} (h : PowD w) {B : Nat} (hb : Below B w w') (hg : 0 < B) : PowD w' := by
  have hgn : Tryz.prog.globalNamed "internal/strconv.uint64pow10" = some 0 := by kernel_rfl
  unfold PowD Lib.TabIs World.var? at h ⊢
  rw [hgn] at h ⊢
  simp only [Option.bind_some] at h ⊢
  rw [hb.block _ hg]
  exact h
theorem PowD.lt {w : World} (h : PowD w) : 0 < w.heap.size := by
  have hgn : Tryz.prog.globalNamed "internal/strconv.uint64pow10" = some 0 := by kernel_rfl
  unfold PowD Lib.TabIs World.var? at h
  rw [hgn] at h
  simp only [Option.bind_some] at h
  split at h
  · rename_i h2; exact blk_lt h2
  · cases h
theorem itoa_calls (n : Int) (w : World) (hL : PowD w) (h0 : -999999 ≤ n) (h1 : n ≤ 999999) :
    Calls Tryz.prog 51 #[.int .i64 n] w fun e w' => e = .returned (.string ⟨(Lib.itoa n).toArray⟩) ∧ Below w.heap.size w w' := by
  refine (Tryz.strconv_Itoa n (by omega) (by omega) w hL).mono ?_
  rintro e w' ⟨rfl, k, os, rfl⟩
  refine ⟨rfl, rfl, rfl, rfl, ?_, fun i hi => ?_⟩
  · show w.heap.size ≤ (w.heap ++ os).size
    rw [Array.size_append]
    omega
  · show (w.heap ++ os)[i]? = w.heap[i]?
    exact Array.getElem?_append_left hi
theorem fmtB_calls (B : Bool) (w : World) (S : ByteArray) (hS : (⟨(Lib.formatBool B).toArray⟩ : ByteArray) = S) : Calls Tryz.prog 50 #[.bool B] w fun e w' => e = .returned (.string S) ∧ w' = w := by
  rw [← hS]; exact Tryz.strconv_FormatBool B w
end Go.Proofs.YtoefnmhmiphilaaGreatDoor.Tp

namespace Go.Proofs.YtoefnmhmiphilaaGreatDoor.Tp
open Go Go.RowKit Go.Maps Go.Proofs.YtoefnmhmiphilaaGreatDoorW.PrintWords
def WC (m : Mt) : Prop := ∀ (b : Nat) (W : World) (base : Nat) (f0 : Int) (f1 : ByteArray) (f2 f3 : Int) (sA : Option Addr) (sn sc : Nat) (d : Int) (acc : List UInt8), Hold W base m → okT m.tr = true → m.nd = ⟨f0, f1, f2, f3⟩ → m.sl = ⟨sA, sn, sc⟩ → BF b acc W → b + 1 ≤ W.heap.size → PowD W → 0 < b → (∀ x ∈ flat m.tr, x.f1.size ≤ 1048576) → acc.length + (tell m.tr).length ≤ 1099511627776 → (flat m.tr).length ≤ 4294967296 →
  Calls Tryz.prog 31 #[.agg #[.int .i64 f0, .string f1, .int .i64 f2, .int .i64 f3, .slice sA sn sc, .int .i64 d], .pointer (some ⟨b, 0, none⟩)] W fun e W' => e = .returned (.tuple #[]) ∧ BF b (acc ++ tell m.tr) W' ∧ Wr b W W'
theorem may_cases {n : Nd} (h : may n = true) : n.f0 = 1 ∨ (n.f0 = 2 ∧ n.f2 = 0) ∨ (n.f0 = 2 ∧ n.f2 = 1) ∨ (n.f0 = 3 ∧ -999999 ≤ n.f2 ∧ n.f2 ≤ 999999) ∨ n.f0 = 4 ∨ n.f0 = 5 ∨ n.f0 = 6 ∨ n.f0 = 7 := by
  obtain ⟨a, s, e, f⟩ := n
  simp only [may, Bool.and_eq_true] at h
  have hm := h.1
  simp only
  rcases may_kind (show may ⟨a, s, e, f⟩ = true by simp only [may, Bool.and_eq_true]; exact h) with h0 | h0 | h0 | h0 | h0 | h0 | h0
  · exact .inl h0
  · simp only at h0
    subst h0
    simp [mayK] at hm
    rcases hm.2.1 with h1 | h1 <;> simp [h1]
  · simp only at h0
    subst h0
    simp [mayK] at hm
    exact .inr (.inr (.inr (.inl ⟨rfl, by omega, by omega⟩)))
  · exact .inr (.inr (.inr (.inr (.inl h0))))
  · simp only at h0; simp [h0]
  · simp only at h0; simp [h0]
  · simp only at h0; simp [h0]
set_option maxHeartbeats 16000000 in
set_option maxRecDepth 100000 in
theorem write_step (nn : Nd) (s : Sl) (kids : List Mt) (ih : ∀ m ∈ kids, WC m) : WC (.mk nn s kids) := by
  intro b W base f0 f1 f2 f3 sA sn sc d acc hh hok hn hsl hB hbz hP hgb htx hsz hlim
  simp only [Mt.nd] at hn
  simp only [Mt.sl] at hsl
  subst hn; subst hsl
  have hfl : (flat (Mt.mk ⟨f0, f1, f2, f3⟩ ⟨sA, sn, sc⟩ kids).tr) = flats (trs kids) ++ [⟨f0, f1, f2, f3⟩] := by rw [Mt.tr, flat]
  have hte : tell (Mt.mk ⟨f0, f1, f2, f3⟩ ⟨sA, sn, sc⟩ kids).tr = head ⟨f0, f1, f2, f3⟩ ++ tells (trs kids) ++ foot ⟨f0, f1, f2, f3⟩ := by rw [Mt.tr]; rfl
  rw [hfl] at htx hlim
  rw [hte] at hsz ⊢
  have hmay : may ⟨f0, f1, f2, f3⟩ = true := by rw [Mt.tr, okT] at hok; simp only [Bool.and_eq_true] at hok; exact hok.1.1.2
  have HOKS := Lib.hid (show okTs (trs kids) = true by rw [Mt.tr, okT] at hok; simp only [Bool.and_eq_true] at hok; exact hok.2)
  have hsn := hh.out_.1
  simp only at hsn
  have hq1 : f1.size ≤ 1048576 := htx ⟨f0, f1, f2, f3⟩ (by simp)
  have HTX := Lib.hid (show ∀ x ∈ flats (trs kids), x.f1.size ≤ 1048576 from fun x hx => htx x (by simp [hx]))
  rw [List.length_append, List.length_singleton] at hlim
  rw [List.length_append, List.length_append] at hsz
  have hle := length_flats (trs kids)
  rw [trs_length, ← hsn] at hle
  have hsn2 : sn ≤ 4294967296 := by omega
  have HLIM := Lib.hid hlim
  have HSZ := Lib.hid hsz
  have HSN := Lib.hid hsn
  have IH := Lib.hid ih
  have HH := Lib.hid hh
  have HB := Lib.hid hB
  have HBZ := Lib.hid hbz
  have HGB := Lib.hid hgb
  have HPW := Lib.hid hP
  obtain ⟨qb, hqb⟩ := quoteV_quo f1
  have CQ := Lib.hid (fun W => quote_calls W f1 (by omega))
  rw [hqb] at CQ
  obtain ⟨Q, hQ⟩ : ∃ Q, mkB (quo f1) = Q := ⟨_, rfl⟩
  rw [hQ] at CQ
  have HQL := Lib.hid (show Q.data.toList = quo f1 by rw [← hQ]; rfl)
  have hqs : Q.size ≤ 2097154 := by
    have h1 := quo_len f1
    have h2 : Q.size = (quo f1).length := by rw [← hQ]; rfl
    omega
  have z58 : ¬ 9223372036854775807 < Q.size + 1 := by omega
  have B1 := Lib.hid ((Below.refl _ W).alloc (Nat.le_refl _) (.cells #[.int .i64 f0, .string f1, .int .i64 f2, .int .i64 f3, .slice sA sn sc, .int .i64 d] 48))
  have hs1 : (W.alloc (.cells #[.int .i64 f0, .string f1, .int .i64 f2, .int .i64 f3, .slice sA sn sc, .int .i64 d] 48)).heap.size = W.heap.size + 1 := Array.size_push _
  have X1 := Lib.hid (blk_new W (.cells #[.int .i64 f0, .string f1, .int .i64 f2, .int .i64 f3, .slice sA sn sc, .int .i64 d] 48))
  obtain ⟨V0, hV0⟩ : ∃ V0, (W.alloc (.cells #[.int .i64 f0, .string f1, .int .i64 f2, .int .i64 f3, .slice sA sn sc, .int .i64 d] 48)).alloc (.cells #[.int .i64 f0, .string f1, .int .i64 f2, .int .i64 f3] 32) = V0 := ⟨_, rfl⟩
  have BV := Lib.hid (show Below W.heap.size W V0 by rw [← hV0]; exact B1.out.alloc (by rw [hs1]; omega) _)
  have XV := Lib.hid (show V0.heap[W.heap.size]? = some (.cells #[.int .i64 f0, .string f1, .int .i64 f2, .int .i64 f3, .slice sA sn sc, .int .i64 d] 48 (0, 0)) by rw [← hV0]; exact blk_alloc X1.out _)
  have NV := Lib.hid (show V0.heap[W.heap.size + 1]? = some (.cells #[.int .i64 f0, .string f1, .int .i64 f2, .int .i64 f3] 32 (0, 0)) by
    rw [← hV0]
    have := blk_new (W.alloc (.cells #[.int .i64 f0, .string f1, .int .i64 f2, .int .i64 f3, .slice sA sn sc, .int .i64 d] 48)) (.cells #[.int .i64 f0, .string f1, .int .i64 f2, .int .i64 f3] 32)
    rw [hs1] at this; exact this)
  have n0 := (blk_cell NV.out 0).trans rfl
  have n1 := (blk_cell NV.out 1).trans rfl
  have n2 := (blk_cell NV.out 2).trans rfl
  have n3 := (blk_cell NV.out 3).trans rfl
  clear hfl hte htx hlim hsz hle hok hh ih hB hbz hP hgb hqb hQ hqs hq1 hs1 hsn
  obtain ⟨hd, hhd⟩ : ∃ x, head ⟨f0, f1, f2, f3⟩ = x := ⟨_, rfl⟩
  obtain ⟨ft, hft⟩ : ∃ x, foot ⟨f0, f1, f2, f3⟩ = x := ⟨_, rfl⟩
  rw [hhd, hft] at HSZ
  rw [hhd, hft]
  have HHD := Lib.hid hhd
  have HFT := Lib.hid hft
  clear hhd hft
  rcases may_cases hmay with h0 | ⟨h0, h2⟩ | ⟨h0, h2⟩ | ⟨h0, h2, h2b⟩ | h0 | h0 | h0 | h0
  · simp only at h0
    subst h0
    clear hmay
    go_enter Tryz.func31, Tryz.ntmps31
    go_wp2_with (first | (go_at_call 49; (with_reducible refine (CQ.out _).mono ?_); rintro e1 W5 ⟨rfl, hb⟩; have B5 := Lib.hid (BV.out.trans (hb.mono BV.out.size)); have X5 := Lib.hid (blk_below XV.out hb); have N5 := Lib.hid (blk_below NV.out hb); clear hb n0 n1 n2 n3; have m0 := (blk_cell N5.out 0).trans rfl; have m2 := (blk_cell N5.out 2).trans rfl) | (go_at_call 52; (with_reducible refine (writeK b acc hd _ ?hx _ (HB.out.below B5.out) ?hl ?hz).mono ?_); (case hx => rw [← HHD.out]; rfl); (case hl => have := HSZ.out; omega); (case hz => have := HBZ.out; have := B5.out.size; omega); rintro e1 W6 ⟨⟨v6, rfl⟩, hB, hw⟩; have BB6 := Lib.hid hB; have W06 := Lib.hid ((Wr.of_below B5.out (by have := HBZ.out; omega)).trans hw); have hX := hw.blk X5.out (by have := HBZ.out; omega) (by decide); have x4 := (blk_cell hX 4).trans rfl; clear hB hw hX m0 m2))
    go_loopg [51] sn (fun g v51 W' => ∃ j : Nat, v51 = .int .i64 (j : Int) ∧ Hid (g = sn - j) ∧ Hid (j ≤ sn) ∧ Hid (BF b (acc ++ hd ++ tells ((trs kids).take j)) W') ∧ Hid (Wr b W W'))
    case atStart => exact ⟨0, rfl, Lib.hid rfl, Lib.hid (Nat.zero_le _), Lib.hid (by rw [List.take_zero]; simp only [tells, List.append_nil]; exact BB6.out), W06⟩
    case round =>
      obtain ⟨j, rfl, HG, HJ, HBB, HWR⟩ := hrel
      have hj0 := HJ.out
      have HZ := Lib.hid (show b + 1 ≤ wr.heap.size by have := HBZ.out; have := HWR.out.bel.size; omega)
      by_cases hj : j < sn
      · obtain ⟨hsn, hrow, hkids⟩ := (HH.out.wr HB.out HWR.out).out_
        simp only at hsn hrow
        have d2 : decide ((j : Int) < (sn : Int)) = true := by simp; omega
        have hjm : (j : Int) < (sn : Int) := by omega
        have hjk : j < kids.length := by omega
        have hjl : j < (kids.map Mt.tv).length := by rw [List.length_map]; exact hjk
        obtain ⟨b', off', hbe, hvs⟩ := (own_Vv hrow).some (by omega)
        subst hbe
        obtain ⟨w0, w1, w2, w3, w4, w5⟩ := hvs.at_ j hjl
        obtain ⟨m, hm⟩ : ∃ m, kids[j]'hjk = m := ⟨_, rfl⟩
        have hmm : m ∈ kids := by rw [← hm]; exact List.getElem_mem _
        have e1 : (kids.map Mt.tv)[j]'hjl = m.tv := by rw [List.getElem_map, hm]
        rw [e1] at w0 w1 w2 w3 w4 w5
        obtain ⟨⟨g0, g1, g2, g3⟩, hnd⟩ : ∃ x, m.nd = x := ⟨_, rfl⟩
        obtain ⟨⟨tA, tn, tc⟩, hsl⟩ : ∃ x, m.sl = x := ⟨_, rfl⟩
        obtain ⟨E, hE⟩ : ∃ E, deep m.tr = E := ⟨_, rfl⟩
        simp only [Mt.tv, tr_nd, hnd, hsl, hE] at w0 w1 w2 w3 w4 w5
        have hjt : j < (trs kids).length := by rw [trs_length]; exact hjk
        have hmt : (trs kids)[j]'hjt = m.tr := by simp only [trs_map, List.getElem_map, hm]
        have htm : m.tr ∈ trs kids := by rw [← hmt]; exact List.getElem_mem _
        have hst := tells_snoc ((trs kids).take j) m.tr
        rw [← hmt, ← List.take_succ_eq_append_getElem hjt, hmt] at hst
        have hle := tells_take (trs kids) (j + 1)
        rw [hst, List.length_append, List.length_append] at hle
        have hfl2 : (flat m.tr).length ≤ 4294967296 := by
          have h1 : (flats (trs kids)).length = (flats (trs (kids.take j))).length + (flats (trs (kids.drop j))).length := by rw [← List.length_append, ← flats_append, ← trs_append, List.take_append_drop]
          rw [List.drop_eq_getElem_cons hjk, hm, trs, flats, List.length_append] at h1
          have := HLIM.out
          omega
        have bO := (Below.refl _ wr).alloc (Nat.le_refl _) (.cells #[.int .i64 g0, .string g1, .int .i64 g2, .int .i64 g3, .slice tA tn tc, .int .i64 (E : Int)] 48)
        have BO := Lib.hid bO
        have XO := Lib.hid (blk_new wr (.cells #[.int .i64 g0, .string g1, .int .i64 g2, .int .i64 g3, .slice tA tn tc, .int .i64 (E : Int)] 48))
        have HBO := Lib.hid (HBB.out.below bO)
        have HWO := Lib.hid (HWR.out.trans (Wr.of_below bO (by have := HZ.out; omega)))
        have hso : (wr.alloc (.cells #[.int .i64 g0, .string g1, .int .i64 g2, .int .i64 g3, .slice tA tn tc, .int .i64 (E : Int)] 48)).heap.size = wr.heap.size + 1 := Array.size_push _
        have HSO := Lib.hid hso
        have HMH := Lib.hid ((hkids m hmm).below bO)
        have HST := Lib.hid hst
        have HLE := Lib.hid hle
        have CM : ∀ (V : World) (L : List UInt8), BF b L V → Wr b W V → Hold V base m → L.length + (tell m.tr).length ≤ 1099511627776 → Calls Tryz.prog 31 #[.agg #[.int .i64 g0, .string g1, .int .i64 g2, .int .i64 g3, .slice tA tn tc, .int .i64 (E : Int)], .pointer (some ⟨b, 0, none⟩)] V fun e W' => e = .returned (.tuple #[]) ∧ BF b (L ++ tell m.tr) W' ∧ Wr b V W' := fun V L h1 h2 h3 h4 =>
          IH.out m hmm b V base g0 g1 g2 g3 tA tn tc (E : Int) L h3 (okTs_mem HOKS.out htm) hnd hsl h1 (by have := HBZ.out; have := h2.bel.size; omega) (HPW.out.below h2.bel HGB.out) HGB.out (fun x hx => HTX.out x (nd_flats htm x hx)) h4 hfl2
        have HCM := Lib.hid CM
        clear CM hm e1 hvs hnd hsl hE hrow hkids hsn hmt htm hst hle hfl2 bO hso
        by_cases hz : j = 0
        · have d4 : decide ((0 : Int) < (j : Int)) = false := by simp; omega
          have d5 : decide (0 < j) = false := by simp; omega
          have HL0 := Lib.hid (show (tells ((trs kids).take j)).length + (tell m.tr).length ≤ (tells (trs kids)).length by have := HLE.out; omega)
          have HJ0 := Lib.hid hz
          clear hz
          go_wp2_with (first | (go_at_call 31; (with_reducible refine (HCM.out _ _ HBO.out HWO.out HMH.out ?hl2).mono ?_); (case hl2 => have := HL0.out; have := HSZ.out; rw [List.length_append, List.length_append]; omega); rintro e1 W8 ⟨rfl, hB, hw⟩; have BB8 := Lib.hid hB; have W08 := Lib.hid (HWO.out.trans hw); clear hB hw))
          go_roundg (sn - (j + 1))
          case rel => exact ⟨j + 1, rfl, Lib.hid rfl, Lib.hid hj, Lib.hid (by rw [HST.out, if_pos (by rw [HJ0.out]; rfl), List.append_nil, ← List.append_assoc]; exact BB8.out), W08⟩
          case measure => have := HG.out; omega
        · have d4 : decide ((0 : Int) < (j : Int)) = true := by simp; omega
          have d5 : decide (0 < j) = true := by simp; omega
          have hne : (trs kids).take j ≠ [] := fun e => by have := congrArg List.length e; rw [List.length_take, List.length_nil] at this; omega
          have HL0 := Lib.hid (show (tells ((trs kids).take j)).length + 1 + (tell m.tr).length ≤ (tells (trs kids)).length by have := HLE.out; rw [if_neg hne, List.length_singleton] at this; omega)
          have HNE := Lib.hid hne
          clear hz hne
          go_wp2_with (first | (go_at_call 52; (with_reducible refine (writeK b _ [44] _ ?hx _ HBO.out ?hl ?hz).mono ?_); (case hx => rfl); (case hl => have := HL0.out; have := HSZ.out; rw [List.length_append, List.length_append, List.length_singleton]; omega); (case hz => have := HZ.out; have := HSO.out; omega); rintro e1 W7 ⟨⟨v7, rfl⟩, hB, hw⟩; have BB7 := Lib.hid hB; have W07 := Lib.hid (HWO.out.trans hw); have HM7 := Lib.hid (HMH.out.wr HBO.out hw); have hX := hw.blk XO.out (by have := HZ.out; omega) (by decide); have q0 := (blk_cell hX 0).trans rfl; have q1 := (blk_cell hX 1).trans rfl; have q2 := (blk_cell hX 2).trans rfl; have q3 := (blk_cell hX 3).trans rfl; have q4 := (blk_cell hX 4).trans rfl; have q5 := (blk_cell hX 5).trans rfl; clear hB hw hX) | (go_at_call 31; (with_reducible refine (HCM.out _ _ BB7.out W07.out HM7.out ?hl2).mono ?_); (case hl2 => have := HL0.out; have := HSZ.out; rw [List.length_append, List.length_append, List.length_append, List.length_singleton]; omega); rintro e1 W8 ⟨rfl, hB, hw⟩; have BB8 := Lib.hid hB; have W08 := Lib.hid (W07.out.trans hw); clear hB hw))
          go_roundg (sn - (j + 1))
          case rel => exact ⟨j + 1, rfl, Lib.hid rfl, Lib.hid hj, Lib.hid (by rw [HST.out, if_neg HNE.out, ← List.append_assoc, ← List.append_assoc]; exact BB8.out), W08⟩
          case measure => have := HG.out; omega
      · have d2 : decide ((j : Int) < (sn : Int)) = false := by simp; omega
        have hB9 := HBB.out
        rw [List.take_of_length_le (by rw [trs_length]; have := HSN.out; omega)] at hB9
        have HB9 := Lib.hid hB9
        clear hB9
        go_wp2_with (first | (go_at_call 52; (with_reducible refine (writeK b _ ft _ ?hx _ HB9.out ?hl ?hz).mono ?_); (case hx => rw [← HFT.out]; rfl); (case hl => have := HSZ.out; rw [List.length_append, List.length_append]; omega); (case hz => exact HZ.out); rintro e1 W9 ⟨⟨v9, rfl⟩, hB, hw⟩; have BB9 := Lib.hid hB; have W09 := Lib.hid (HWR.out.trans hw); clear hB hw))
        go_end0
        refine ⟨rfl, ?_, W09.out⟩
        have hb9 := BB9.out
        simp only [List.append_assoc] at hb9 ⊢
        exact hb9
  · simp only at h0
    subst h0
    simp only at h2
    subst h2
    clear hmay
    go_enter Tryz.func31, Tryz.ntmps31
    go_wp2_with (first | (go_at_call 49; (with_reducible refine (CQ.out _).mono ?_); rintro e1 W5 ⟨rfl, hb⟩; have B5 := Lib.hid (BV.out.trans (hb.mono BV.out.size)); have X5 := Lib.hid (blk_below XV.out hb); have N5 := Lib.hid (blk_below NV.out hb); clear hb n0 n1 n2 n3; have m0 := (blk_cell N5.out 0).trans rfl; have m2 := (blk_cell N5.out 2).trans rfl) | (go_at_call 50; (with_reducible refine (fmtB_calls _ _ ⟨#[102, 97, 108, 115, 101]⟩ ?hS).mono ?_); (case hS => rfl); rintro e1 W7 ⟨rfl, hw⟩; have hw2 := hw.symm; clear hw; subst hw2) | (go_at_call 52; (with_reducible refine (writeK b acc hd _ ?hx _ (HB.out.below B5.out) ?hl ?hz).mono ?_); (case hx => rw [← HHD.out]; rfl); (case hl => have := HSZ.out; omega); (case hz => have := HBZ.out; have := B5.out.size; omega); rintro e1 W6 ⟨⟨v6, rfl⟩, hB, hw⟩; have BB6 := Lib.hid hB; have W06 := Lib.hid ((Wr.of_below B5.out (by have := HBZ.out; omega)).trans hw); have hX := hw.blk X5.out (by have := HBZ.out; omega) (by decide); have x4 := (blk_cell hX 4).trans rfl; clear hB hw hX m0 m2))
    go_loopg [51] sn (fun g v51 W' => ∃ j : Nat, v51 = .int .i64 (j : Int) ∧ Hid (g = sn - j) ∧ Hid (j ≤ sn) ∧ Hid (BF b (acc ++ hd ++ tells ((trs kids).take j)) W') ∧ Hid (Wr b W W'))
    case atStart => exact ⟨0, rfl, Lib.hid rfl, Lib.hid (Nat.zero_le _), Lib.hid (by rw [List.take_zero]; simp only [tells, List.append_nil]; exact BB6.out), W06⟩
    case round =>
      obtain ⟨j, rfl, HG, HJ, HBB, HWR⟩ := hrel
      have hj0 := HJ.out
      have HZ := Lib.hid (show b + 1 ≤ wr.heap.size by have := HBZ.out; have := HWR.out.bel.size; omega)
      by_cases hj : j < sn
      · obtain ⟨hsn, hrow, hkids⟩ := (HH.out.wr HB.out HWR.out).out_
        simp only at hsn hrow
        have d2 : decide ((j : Int) < (sn : Int)) = true := by simp; omega
        have hjm : (j : Int) < (sn : Int) := by omega
        have hjk : j < kids.length := by omega
        have hjl : j < (kids.map Mt.tv).length := by rw [List.length_map]; exact hjk
        obtain ⟨b', off', hbe, hvs⟩ := (own_Vv hrow).some (by omega)
        subst hbe
        obtain ⟨w0, w1, w2, w3, w4, w5⟩ := hvs.at_ j hjl
        obtain ⟨m, hm⟩ : ∃ m, kids[j]'hjk = m := ⟨_, rfl⟩
        have hmm : m ∈ kids := by rw [← hm]; exact List.getElem_mem _
        have e1 : (kids.map Mt.tv)[j]'hjl = m.tv := by rw [List.getElem_map, hm]
        rw [e1] at w0 w1 w2 w3 w4 w5
        obtain ⟨⟨g0, g1, g2, g3⟩, hnd⟩ : ∃ x, m.nd = x := ⟨_, rfl⟩
        obtain ⟨⟨tA, tn, tc⟩, hsl⟩ : ∃ x, m.sl = x := ⟨_, rfl⟩
        obtain ⟨E, hE⟩ : ∃ E, deep m.tr = E := ⟨_, rfl⟩
        simp only [Mt.tv, tr_nd, hnd, hsl, hE] at w0 w1 w2 w3 w4 w5
        have hjt : j < (trs kids).length := by rw [trs_length]; exact hjk
        have hmt : (trs kids)[j]'hjt = m.tr := by simp only [trs_map, List.getElem_map, hm]
        have htm : m.tr ∈ trs kids := by rw [← hmt]; exact List.getElem_mem _
        have hst := tells_snoc ((trs kids).take j) m.tr
        rw [← hmt, ← List.take_succ_eq_append_getElem hjt, hmt] at hst
        have hle := tells_take (trs kids) (j + 1)
        rw [hst, List.length_append, List.length_append] at hle
        have hfl2 : (flat m.tr).length ≤ 4294967296 := by
          have h1 : (flats (trs kids)).length = (flats (trs (kids.take j))).length + (flats (trs (kids.drop j))).length := by rw [← List.length_append, ← flats_append, ← trs_append, List.take_append_drop]
          rw [List.drop_eq_getElem_cons hjk, hm, trs, flats, List.length_append] at h1
          have := HLIM.out
          omega
        have bO := (Below.refl _ wr).alloc (Nat.le_refl _) (.cells #[.int .i64 g0, .string g1, .int .i64 g2, .int .i64 g3, .slice tA tn tc, .int .i64 (E : Int)] 48)
        have BO := Lib.hid bO
        have XO := Lib.hid (blk_new wr (.cells #[.int .i64 g0, .string g1, .int .i64 g2, .int .i64 g3, .slice tA tn tc, .int .i64 (E : Int)] 48))
        have HBO := Lib.hid (HBB.out.below bO)
        have HWO := Lib.hid (HWR.out.trans (Wr.of_below bO (by have := HZ.out; omega)))
        have hso : (wr.alloc (.cells #[.int .i64 g0, .string g1, .int .i64 g2, .int .i64 g3, .slice tA tn tc, .int .i64 (E : Int)] 48)).heap.size = wr.heap.size + 1 := Array.size_push _
        have HSO := Lib.hid hso
        have HMH := Lib.hid ((hkids m hmm).below bO)
        have HST := Lib.hid hst
        have HLE := Lib.hid hle
        have CM : ∀ (V : World) (L : List UInt8), BF b L V → Wr b W V → Hold V base m → L.length + (tell m.tr).length ≤ 1099511627776 → Calls Tryz.prog 31 #[.agg #[.int .i64 g0, .string g1, .int .i64 g2, .int .i64 g3, .slice tA tn tc, .int .i64 (E : Int)], .pointer (some ⟨b, 0, none⟩)] V fun e W' => e = .returned (.tuple #[]) ∧ BF b (L ++ tell m.tr) W' ∧ Wr b V W' := fun V L h1 h2 h3 h4 =>
          IH.out m hmm b V base g0 g1 g2 g3 tA tn tc (E : Int) L h3 (okTs_mem HOKS.out htm) hnd hsl h1 (by have := HBZ.out; have := h2.bel.size; omega) (HPW.out.below h2.bel HGB.out) HGB.out (fun x hx => HTX.out x (nd_flats htm x hx)) h4 hfl2
        have HCM := Lib.hid CM
        clear CM hm e1 hvs hnd hsl hE hrow hkids hsn hmt htm hst hle hfl2 bO hso
        by_cases hz : j = 0
        · have d4 : decide ((0 : Int) < (j : Int)) = false := by simp; omega
          have d5 : decide (0 < j) = false := by simp; omega
          have HL0 := Lib.hid (show (tells ((trs kids).take j)).length + (tell m.tr).length ≤ (tells (trs kids)).length by have := HLE.out; omega)
          have HJ0 := Lib.hid hz
          clear hz
          go_wp2_with (first | (go_at_call 31; (with_reducible refine (HCM.out _ _ HBO.out HWO.out HMH.out ?hl2).mono ?_); (case hl2 => have := HL0.out; have := HSZ.out; rw [List.length_append, List.length_append]; omega); rintro e1 W8 ⟨rfl, hB, hw⟩; have BB8 := Lib.hid hB; have W08 := Lib.hid (HWO.out.trans hw); clear hB hw))
          go_roundg (sn - (j + 1))
          case rel => exact ⟨j + 1, rfl, Lib.hid rfl, Lib.hid hj, Lib.hid (by rw [HST.out, if_pos (by rw [HJ0.out]; rfl), List.append_nil, ← List.append_assoc]; exact BB8.out), W08⟩
          case measure => have := HG.out; omega
        · have d4 : decide ((0 : Int) < (j : Int)) = true := by simp; omega
          have d5 : decide (0 < j) = true := by simp; omega
          have hne : (trs kids).take j ≠ [] := fun e => by have := congrArg List.length e; rw [List.length_take, List.length_nil] at this; omega
          have HL0 := Lib.hid (show (tells ((trs kids).take j)).length + 1 + (tell m.tr).length ≤ (tells (trs kids)).length by have := HLE.out; rw [if_neg hne, List.length_singleton] at this; omega)
          have HNE := Lib.hid hne
          clear hz hne
          go_wp2_with (first | (go_at_call 52; (with_reducible refine (writeK b _ [44] _ ?hx _ HBO.out ?hl ?hz).mono ?_); (case hx => rfl); (case hl => have := HL0.out; have := HSZ.out; rw [List.length_append, List.length_append, List.length_singleton]; omega); (case hz => have := HZ.out; have := HSO.out; omega); rintro e1 W7 ⟨⟨v7, rfl⟩, hB, hw⟩; have BB7 := Lib.hid hB; have W07 := Lib.hid (HWO.out.trans hw); have HM7 := Lib.hid (HMH.out.wr HBO.out hw); have hX := hw.blk XO.out (by have := HZ.out; omega) (by decide); have q0 := (blk_cell hX 0).trans rfl; have q1 := (blk_cell hX 1).trans rfl; have q2 := (blk_cell hX 2).trans rfl; have q3 := (blk_cell hX 3).trans rfl; have q4 := (blk_cell hX 4).trans rfl; have q5 := (blk_cell hX 5).trans rfl; clear hB hw hX) | (go_at_call 31; (with_reducible refine (HCM.out _ _ BB7.out W07.out HM7.out ?hl2).mono ?_); (case hl2 => have := HL0.out; have := HSZ.out; rw [List.length_append, List.length_append, List.length_append, List.length_singleton]; omega); rintro e1 W8 ⟨rfl, hB, hw⟩; have BB8 := Lib.hid hB; have W08 := Lib.hid (W07.out.trans hw); clear hB hw))
          go_roundg (sn - (j + 1))
          case rel => exact ⟨j + 1, rfl, Lib.hid rfl, Lib.hid hj, Lib.hid (by rw [HST.out, if_neg HNE.out, ← List.append_assoc, ← List.append_assoc]; exact BB8.out), W08⟩
          case measure => have := HG.out; omega
      · have d2 : decide ((j : Int) < (sn : Int)) = false := by simp; omega
        have hB9 := HBB.out
        rw [List.take_of_length_le (by rw [trs_length]; have := HSN.out; omega)] at hB9
        have HB9 := Lib.hid hB9
        clear hB9
        go_wp2_with (first | (go_at_call 52; (with_reducible refine (writeK b _ ft _ ?hx _ HB9.out ?hl ?hz).mono ?_); (case hx => rw [← HFT.out]; rfl); (case hl => have := HSZ.out; rw [List.length_append, List.length_append]; omega); (case hz => exact HZ.out); rintro e1 W9 ⟨⟨v9, rfl⟩, hB, hw⟩; have BB9 := Lib.hid hB; have W09 := Lib.hid (HWR.out.trans hw); clear hB hw))
        go_end0
        refine ⟨rfl, ?_, W09.out⟩
        have hb9 := BB9.out
        simp only [List.append_assoc] at hb9 ⊢
        exact hb9
  · simp only at h0
    subst h0
    simp only at h2
    subst h2
    clear hmay
    go_enter Tryz.func31, Tryz.ntmps31
    go_wp2_with (first | (go_at_call 49; (with_reducible refine (CQ.out _).mono ?_); rintro e1 W5 ⟨rfl, hb⟩; have B5 := Lib.hid (BV.out.trans (hb.mono BV.out.size)); have X5 := Lib.hid (blk_below XV.out hb); have N5 := Lib.hid (blk_below NV.out hb); clear hb n0 n1 n2 n3; have m0 := (blk_cell N5.out 0).trans rfl; have m2 := (blk_cell N5.out 2).trans rfl) | (go_at_call 50; (with_reducible refine (fmtB_calls _ _ ⟨#[116, 114, 117, 101]⟩ ?hS).mono ?_); (case hS => rfl); rintro e1 W7 ⟨rfl, hw⟩; have hw2 := hw.symm; clear hw; subst hw2) | (go_at_call 52; (with_reducible refine (writeK b acc hd _ ?hx _ (HB.out.below B5.out) ?hl ?hz).mono ?_); (case hx => rw [← HHD.out]; rfl); (case hl => have := HSZ.out; omega); (case hz => have := HBZ.out; have := B5.out.size; omega); rintro e1 W6 ⟨⟨v6, rfl⟩, hB, hw⟩; have BB6 := Lib.hid hB; have W06 := Lib.hid ((Wr.of_below B5.out (by have := HBZ.out; omega)).trans hw); have hX := hw.blk X5.out (by have := HBZ.out; omega) (by decide); have x4 := (blk_cell hX 4).trans rfl; clear hB hw hX m0 m2))
    go_loopg [51] sn (fun g v51 W' => ∃ j : Nat, v51 = .int .i64 (j : Int) ∧ Hid (g = sn - j) ∧ Hid (j ≤ sn) ∧ Hid (BF b (acc ++ hd ++ tells ((trs kids).take j)) W') ∧ Hid (Wr b W W'))
    case atStart => exact ⟨0, rfl, Lib.hid rfl, Lib.hid (Nat.zero_le _), Lib.hid (by rw [List.take_zero]; simp only [tells, List.append_nil]; exact BB6.out), W06⟩
    case round =>
      obtain ⟨j, rfl, HG, HJ, HBB, HWR⟩ := hrel
      have hj0 := HJ.out
      have HZ := Lib.hid (show b + 1 ≤ wr.heap.size by have := HBZ.out; have := HWR.out.bel.size; omega)
      by_cases hj : j < sn
      · obtain ⟨hsn, hrow, hkids⟩ := (HH.out.wr HB.out HWR.out).out_
        simp only at hsn hrow
        have d2 : decide ((j : Int) < (sn : Int)) = true := by simp; omega
        have hjm : (j : Int) < (sn : Int) := by omega
        have hjk : j < kids.length := by omega
        have hjl : j < (kids.map Mt.tv).length := by rw [List.length_map]; exact hjk
        obtain ⟨b', off', hbe, hvs⟩ := (own_Vv hrow).some (by omega)
        subst hbe
        obtain ⟨w0, w1, w2, w3, w4, w5⟩ := hvs.at_ j hjl
        obtain ⟨m, hm⟩ : ∃ m, kids[j]'hjk = m := ⟨_, rfl⟩
        have hmm : m ∈ kids := by rw [← hm]; exact List.getElem_mem _
        have e1 : (kids.map Mt.tv)[j]'hjl = m.tv := by rw [List.getElem_map, hm]
        rw [e1] at w0 w1 w2 w3 w4 w5
        obtain ⟨⟨g0, g1, g2, g3⟩, hnd⟩ : ∃ x, m.nd = x := ⟨_, rfl⟩
        obtain ⟨⟨tA, tn, tc⟩, hsl⟩ : ∃ x, m.sl = x := ⟨_, rfl⟩
        obtain ⟨E, hE⟩ : ∃ E, deep m.tr = E := ⟨_, rfl⟩
        simp only [Mt.tv, tr_nd, hnd, hsl, hE] at w0 w1 w2 w3 w4 w5
        have hjt : j < (trs kids).length := by rw [trs_length]; exact hjk
        have hmt : (trs kids)[j]'hjt = m.tr := by simp only [trs_map, List.getElem_map, hm]
        have htm : m.tr ∈ trs kids := by rw [← hmt]; exact List.getElem_mem _
        have hst := tells_snoc ((trs kids).take j) m.tr
        rw [← hmt, ← List.take_succ_eq_append_getElem hjt, hmt] at hst
        have hle := tells_take (trs kids) (j + 1)
        rw [hst, List.length_append, List.length_append] at hle
        have hfl2 : (flat m.tr).length ≤ 4294967296 := by
          have h1 : (flats (trs kids)).length = (flats (trs (kids.take j))).length + (flats (trs (kids.drop j))).length := by rw [← List.length_append, ← flats_append, ← trs_append, List.take_append_drop]
          rw [List.drop_eq_getElem_cons hjk, hm, trs, flats, List.length_append] at h1
          have := HLIM.out
          omega
        have bO := (Below.refl _ wr).alloc (Nat.le_refl _) (.cells #[.int .i64 g0, .string g1, .int .i64 g2, .int .i64 g3, .slice tA tn tc, .int .i64 (E : Int)] 48)
        have BO := Lib.hid bO
        have XO := Lib.hid (blk_new wr (.cells #[.int .i64 g0, .string g1, .int .i64 g2, .int .i64 g3, .slice tA tn tc, .int .i64 (E : Int)] 48))
        have HBO := Lib.hid (HBB.out.below bO)
        have HWO := Lib.hid (HWR.out.trans (Wr.of_below bO (by have := HZ.out; omega)))
        have hso : (wr.alloc (.cells #[.int .i64 g0, .string g1, .int .i64 g2, .int .i64 g3, .slice tA tn tc, .int .i64 (E : Int)] 48)).heap.size = wr.heap.size + 1 := Array.size_push _
        have HSO := Lib.hid hso
        have HMH := Lib.hid ((hkids m hmm).below bO)
        have HST := Lib.hid hst
        have HLE := Lib.hid hle
        have CM : ∀ (V : World) (L : List UInt8), BF b L V → Wr b W V → Hold V base m → L.length + (tell m.tr).length ≤ 1099511627776 → Calls Tryz.prog 31 #[.agg #[.int .i64 g0, .string g1, .int .i64 g2, .int .i64 g3, .slice tA tn tc, .int .i64 (E : Int)], .pointer (some ⟨b, 0, none⟩)] V fun e W' => e = .returned (.tuple #[]) ∧ BF b (L ++ tell m.tr) W' ∧ Wr b V W' := fun V L h1 h2 h3 h4 =>
          IH.out m hmm b V base g0 g1 g2 g3 tA tn tc (E : Int) L h3 (okTs_mem HOKS.out htm) hnd hsl h1 (by have := HBZ.out; have := h2.bel.size; omega) (HPW.out.below h2.bel HGB.out) HGB.out (fun x hx => HTX.out x (nd_flats htm x hx)) h4 hfl2
        have HCM := Lib.hid CM
        clear CM hm e1 hvs hnd hsl hE hrow hkids hsn hmt htm hst hle hfl2 bO hso
        by_cases hz : j = 0
        · have d4 : decide ((0 : Int) < (j : Int)) = false := by simp; omega
          have d5 : decide (0 < j) = false := by simp; omega
          have HL0 := Lib.hid (show (tells ((trs kids).take j)).length + (tell m.tr).length ≤ (tells (trs kids)).length by have := HLE.out; omega)
          have HJ0 := Lib.hid hz
          clear hz
          go_wp2_with (first | (go_at_call 31; (with_reducible refine (HCM.out _ _ HBO.out HWO.out HMH.out ?hl2).mono ?_); (case hl2 => have := HL0.out; have := HSZ.out; rw [List.length_append, List.length_append]; omega); rintro e1 W8 ⟨rfl, hB, hw⟩; have BB8 := Lib.hid hB; have W08 := Lib.hid (HWO.out.trans hw); clear hB hw))
          go_roundg (sn - (j + 1))
          case rel => exact ⟨j + 1, rfl, Lib.hid rfl, Lib.hid hj, Lib.hid (by rw [HST.out, if_pos (by rw [HJ0.out]; rfl), List.append_nil, ← List.append_assoc]; exact BB8.out), W08⟩
          case measure => have := HG.out; omega
        · have d4 : decide ((0 : Int) < (j : Int)) = true := by simp; omega
          have d5 : decide (0 < j) = true := by simp; omega
          have hne : (trs kids).take j ≠ [] := fun e => by have := congrArg List.length e; rw [List.length_take, List.length_nil] at this; omega
          have HL0 := Lib.hid (show (tells ((trs kids).take j)).length + 1 + (tell m.tr).length ≤ (tells (trs kids)).length by have := HLE.out; rw [if_neg hne, List.length_singleton] at this; omega)
          have HNE := Lib.hid hne
          clear hz hne
          go_wp2_with (first | (go_at_call 52; (with_reducible refine (writeK b _ [44] _ ?hx _ HBO.out ?hl ?hz).mono ?_); (case hx => rfl); (case hl => have := HL0.out; have := HSZ.out; rw [List.length_append, List.length_append, List.length_singleton]; omega); (case hz => have := HZ.out; have := HSO.out; omega); rintro e1 W7 ⟨⟨v7, rfl⟩, hB, hw⟩; have BB7 := Lib.hid hB; have W07 := Lib.hid (HWO.out.trans hw); have HM7 := Lib.hid (HMH.out.wr HBO.out hw); have hX := hw.blk XO.out (by have := HZ.out; omega) (by decide); have q0 := (blk_cell hX 0).trans rfl; have q1 := (blk_cell hX 1).trans rfl; have q2 := (blk_cell hX 2).trans rfl; have q3 := (blk_cell hX 3).trans rfl; have q4 := (blk_cell hX 4).trans rfl; have q5 := (blk_cell hX 5).trans rfl; clear hB hw hX) | (go_at_call 31; (with_reducible refine (HCM.out _ _ BB7.out W07.out HM7.out ?hl2).mono ?_); (case hl2 => have := HL0.out; have := HSZ.out; rw [List.length_append, List.length_append, List.length_append, List.length_singleton]; omega); rintro e1 W8 ⟨rfl, hB, hw⟩; have BB8 := Lib.hid hB; have W08 := Lib.hid (W07.out.trans hw); clear hB hw))
          go_roundg (sn - (j + 1))
          case rel => exact ⟨j + 1, rfl, Lib.hid rfl, Lib.hid hj, Lib.hid (by rw [HST.out, if_neg HNE.out, ← List.append_assoc, ← List.append_assoc]; exact BB8.out), W08⟩
          case measure => have := HG.out; omega
      · have d2 : decide ((j : Int) < (sn : Int)) = false := by simp; omega
        have hB9 := HBB.out
        rw [List.take_of_length_le (by rw [trs_length]; have := HSN.out; omega)] at hB9
        have HB9 := Lib.hid hB9
        clear hB9
        go_wp2_with (first | (go_at_call 52; (with_reducible refine (writeK b _ ft _ ?hx _ HB9.out ?hl ?hz).mono ?_); (case hx => rw [← HFT.out]; rfl); (case hl => have := HSZ.out; rw [List.length_append, List.length_append]; omega); (case hz => exact HZ.out); rintro e1 W9 ⟨⟨v9, rfl⟩, hB, hw⟩; have BB9 := Lib.hid hB; have W09 := Lib.hid (HWR.out.trans hw); clear hB hw))
        go_end0
        refine ⟨rfl, ?_, W09.out⟩
        have hb9 := BB9.out
        simp only [List.append_assoc] at hb9 ⊢
        exact hb9
  · simp only at h0
    subst h0
    have H2 := Lib.hid (And.intro h2 h2b)
    clear h2 h2b
    clear hmay
    go_enter Tryz.func31, Tryz.ntmps31
    go_wp2_with (first | (go_at_call 49; (with_reducible refine (CQ.out _).mono ?_); rintro e1 W5 ⟨rfl, hb⟩; have B5 := Lib.hid (BV.out.trans (hb.mono BV.out.size)); have X5 := Lib.hid (blk_below XV.out hb); have N5 := Lib.hid (blk_below NV.out hb); clear hb n0 n1 n2 n3; have m0 := (blk_cell N5.out 0).trans rfl; have m2 := (blk_cell N5.out 2).trans rfl) | (go_at_call 51; (with_reducible refine (itoa_calls f2 _ (HPW.out.below (B5.out.mono (show 0 + 1 ≤ W.heap.size by have := HBZ.out; omega)) (by decide)) H2.out.1 H2.out.2).mono ?_); rintro e1 W7 ⟨rfl, hb⟩; have X7 := Lib.hid (blk_below X5.out hb); have B7 := Lib.hid (B5.out.trans (hb.mono B5.out.size)); clear hb; clear X5 B5; have X5 := X7; have B5 := B7; have m0 := trivial; have m2 := trivial) | (go_at_call 52; (with_reducible refine (writeK b acc hd _ ?hx _ (HB.out.below B5.out) ?hl ?hz).mono ?_); (case hx => rw [← HHD.out]; simp [head]); (case hl => have := HSZ.out; omega); (case hz => have := HBZ.out; have := B5.out.size; omega); rintro e1 W6 ⟨⟨v6, rfl⟩, hB, hw⟩; have BB6 := Lib.hid hB; have W06 := Lib.hid ((Wr.of_below B5.out (by have := HBZ.out; omega)).trans hw); have hX := hw.blk X5.out (by have := HBZ.out; omega) (by decide); have x4 := (blk_cell hX 4).trans rfl; clear hB hw hX m0 m2))
    go_loopg [51] sn (fun g v51 W' => ∃ j : Nat, v51 = .int .i64 (j : Int) ∧ Hid (g = sn - j) ∧ Hid (j ≤ sn) ∧ Hid (BF b (acc ++ hd ++ tells ((trs kids).take j)) W') ∧ Hid (Wr b W W'))
    case atStart => exact ⟨0, rfl, Lib.hid rfl, Lib.hid (Nat.zero_le _), Lib.hid (by rw [List.take_zero]; simp only [tells, List.append_nil]; exact BB6.out), W06⟩
    case round =>
      obtain ⟨j, rfl, HG, HJ, HBB, HWR⟩ := hrel
      have hj0 := HJ.out
      have HZ := Lib.hid (show b + 1 ≤ wr.heap.size by have := HBZ.out; have := HWR.out.bel.size; omega)
      by_cases hj : j < sn
      · obtain ⟨hsn, hrow, hkids⟩ := (HH.out.wr HB.out HWR.out).out_
        simp only at hsn hrow
        have d2 : decide ((j : Int) < (sn : Int)) = true := by simp; omega
        have hjm : (j : Int) < (sn : Int) := by omega
        have hjk : j < kids.length := by omega
        have hjl : j < (kids.map Mt.tv).length := by rw [List.length_map]; exact hjk
        obtain ⟨b', off', hbe, hvs⟩ := (own_Vv hrow).some (by omega)
        subst hbe
        obtain ⟨w0, w1, w2, w3, w4, w5⟩ := hvs.at_ j hjl
        obtain ⟨m, hm⟩ : ∃ m, kids[j]'hjk = m := ⟨_, rfl⟩
        have hmm : m ∈ kids := by rw [← hm]; exact List.getElem_mem _
        have e1 : (kids.map Mt.tv)[j]'hjl = m.tv := by rw [List.getElem_map, hm]
        rw [e1] at w0 w1 w2 w3 w4 w5
        obtain ⟨⟨g0, g1, g2, g3⟩, hnd⟩ : ∃ x, m.nd = x := ⟨_, rfl⟩
        obtain ⟨⟨tA, tn, tc⟩, hsl⟩ : ∃ x, m.sl = x := ⟨_, rfl⟩
        obtain ⟨E, hE⟩ : ∃ E, deep m.tr = E := ⟨_, rfl⟩
        simp only [Mt.tv, tr_nd, hnd, hsl, hE] at w0 w1 w2 w3 w4 w5
        have hjt : j < (trs kids).length := by rw [trs_length]; exact hjk
        have hmt : (trs kids)[j]'hjt = m.tr := by simp only [trs_map, List.getElem_map, hm]
        have htm : m.tr ∈ trs kids := by rw [← hmt]; exact List.getElem_mem _
        have hst := tells_snoc ((trs kids).take j) m.tr
        rw [← hmt, ← List.take_succ_eq_append_getElem hjt, hmt] at hst
        have hle := tells_take (trs kids) (j + 1)
        rw [hst, List.length_append, List.length_append] at hle
        have hfl2 : (flat m.tr).length ≤ 4294967296 := by
          have h1 : (flats (trs kids)).length = (flats (trs (kids.take j))).length + (flats (trs (kids.drop j))).length := by rw [← List.length_append, ← flats_append, ← trs_append, List.take_append_drop]
          rw [List.drop_eq_getElem_cons hjk, hm, trs, flats, List.length_append] at h1
          have := HLIM.out
          omega
        have bO := (Below.refl _ wr).alloc (Nat.le_refl _) (.cells #[.int .i64 g0, .string g1, .int .i64 g2, .int .i64 g3, .slice tA tn tc, .int .i64 (E : Int)] 48)
        have BO := Lib.hid bO
        have XO := Lib.hid (blk_new wr (.cells #[.int .i64 g0, .string g1, .int .i64 g2, .int .i64 g3, .slice tA tn tc, .int .i64 (E : Int)] 48))
        have HBO := Lib.hid (HBB.out.below bO)
        have HWO := Lib.hid (HWR.out.trans (Wr.of_below bO (by have := HZ.out; omega)))
        have hso : (wr.alloc (.cells #[.int .i64 g0, .string g1, .int .i64 g2, .int .i64 g3, .slice tA tn tc, .int .i64 (E : Int)] 48)).heap.size = wr.heap.size + 1 := Array.size_push _
        have HSO := Lib.hid hso
        have HMH := Lib.hid ((hkids m hmm).below bO)
        have HST := Lib.hid hst
        have HLE := Lib.hid hle
        have CM : ∀ (V : World) (L : List UInt8), BF b L V → Wr b W V → Hold V base m → L.length + (tell m.tr).length ≤ 1099511627776 → Calls Tryz.prog 31 #[.agg #[.int .i64 g0, .string g1, .int .i64 g2, .int .i64 g3, .slice tA tn tc, .int .i64 (E : Int)], .pointer (some ⟨b, 0, none⟩)] V fun e W' => e = .returned (.tuple #[]) ∧ BF b (L ++ tell m.tr) W' ∧ Wr b V W' := fun V L h1 h2 h3 h4 =>
          IH.out m hmm b V base g0 g1 g2 g3 tA tn tc (E : Int) L h3 (okTs_mem HOKS.out htm) hnd hsl h1 (by have := HBZ.out; have := h2.bel.size; omega) (HPW.out.below h2.bel HGB.out) HGB.out (fun x hx => HTX.out x (nd_flats htm x hx)) h4 hfl2
        have HCM := Lib.hid CM
        clear CM hm e1 hvs hnd hsl hE hrow hkids hsn hmt htm hst hle hfl2 bO hso
        by_cases hz : j = 0
        · have d4 : decide ((0 : Int) < (j : Int)) = false := by simp; omega
          have d5 : decide (0 < j) = false := by simp; omega
          have HL0 := Lib.hid (show (tells ((trs kids).take j)).length + (tell m.tr).length ≤ (tells (trs kids)).length by have := HLE.out; omega)
          have HJ0 := Lib.hid hz
          clear hz
          go_wp2_with (first | (go_at_call 31; (with_reducible refine (HCM.out _ _ HBO.out HWO.out HMH.out ?hl2).mono ?_); (case hl2 => have := HL0.out; have := HSZ.out; rw [List.length_append, List.length_append]; omega); rintro e1 W8 ⟨rfl, hB, hw⟩; have BB8 := Lib.hid hB; have W08 := Lib.hid (HWO.out.trans hw); clear hB hw))
          go_roundg (sn - (j + 1))
          case rel => exact ⟨j + 1, rfl, Lib.hid rfl, Lib.hid hj, Lib.hid (by rw [HST.out, if_pos (by rw [HJ0.out]; rfl), List.append_nil, ← List.append_assoc]; exact BB8.out), W08⟩
          case measure => have := HG.out; omega
        · have d4 : decide ((0 : Int) < (j : Int)) = true := by simp; omega
          have d5 : decide (0 < j) = true := by simp; omega
          have hne : (trs kids).take j ≠ [] := fun e => by have := congrArg List.length e; rw [List.length_take, List.length_nil] at this; omega
          have HL0 := Lib.hid (show (tells ((trs kids).take j)).length + 1 + (tell m.tr).length ≤ (tells (trs kids)).length by have := HLE.out; rw [if_neg hne, List.length_singleton] at this; omega)
          have HNE := Lib.hid hne
          clear hz hne
          go_wp2_with (first | (go_at_call 52; (with_reducible refine (writeK b _ [44] _ ?hx _ HBO.out ?hl ?hz).mono ?_); (case hx => rfl); (case hl => have := HL0.out; have := HSZ.out; rw [List.length_append, List.length_append, List.length_singleton]; omega); (case hz => have := HZ.out; have := HSO.out; omega); rintro e1 W7 ⟨⟨v7, rfl⟩, hB, hw⟩; have BB7 := Lib.hid hB; have W07 := Lib.hid (HWO.out.trans hw); have HM7 := Lib.hid (HMH.out.wr HBO.out hw); have hX := hw.blk XO.out (by have := HZ.out; omega) (by decide); have q0 := (blk_cell hX 0).trans rfl; have q1 := (blk_cell hX 1).trans rfl; have q2 := (blk_cell hX 2).trans rfl; have q3 := (blk_cell hX 3).trans rfl; have q4 := (blk_cell hX 4).trans rfl; have q5 := (blk_cell hX 5).trans rfl; clear hB hw hX) | (go_at_call 31; (with_reducible refine (HCM.out _ _ BB7.out W07.out HM7.out ?hl2).mono ?_); (case hl2 => have := HL0.out; have := HSZ.out; rw [List.length_append, List.length_append, List.length_append, List.length_singleton]; omega); rintro e1 W8 ⟨rfl, hB, hw⟩; have BB8 := Lib.hid hB; have W08 := Lib.hid (W07.out.trans hw); clear hB hw))
          go_roundg (sn - (j + 1))
          case rel => exact ⟨j + 1, rfl, Lib.hid rfl, Lib.hid hj, Lib.hid (by rw [HST.out, if_neg HNE.out, ← List.append_assoc, ← List.append_assoc]; exact BB8.out), W08⟩
          case measure => have := HG.out; omega
      · have d2 : decide ((j : Int) < (sn : Int)) = false := by simp; omega
        have hB9 := HBB.out
        rw [List.take_of_length_le (by rw [trs_length]; have := HSN.out; omega)] at hB9
        have HB9 := Lib.hid hB9
        clear hB9
        go_wp2_with (first | (go_at_call 52; (with_reducible refine (writeK b _ ft _ ?hx _ HB9.out ?hl ?hz).mono ?_); (case hx => rw [← HFT.out]; rfl); (case hl => have := HSZ.out; rw [List.length_append, List.length_append]; omega); (case hz => exact HZ.out); rintro e1 W9 ⟨⟨v9, rfl⟩, hB, hw⟩; have BB9 := Lib.hid hB; have W09 := Lib.hid (HWR.out.trans hw); clear hB hw))
        go_end0
        refine ⟨rfl, ?_, W09.out⟩
        have hb9 := BB9.out
        simp only [List.append_assoc] at hb9 ⊢
        exact hb9
  · simp only at h0
    subst h0
    clear hmay
    go_enter Tryz.func31, Tryz.ntmps31
    go_wp2_with (first | (go_at_call 49; (with_reducible refine (CQ.out _).mono ?_); rintro e1 W5 ⟨rfl, hb⟩; have B5 := Lib.hid (BV.out.trans (hb.mono BV.out.size)); have X5 := Lib.hid (blk_below XV.out hb); have N5 := Lib.hid (blk_below NV.out hb); clear hb n0 n1 n2 n3; have m0 := (blk_cell N5.out 0).trans rfl; have m2 := (blk_cell N5.out 2).trans rfl) | (go_at_call 52; (with_reducible refine (writeK b acc hd _ ?hx _ (HB.out.below B5.out) ?hl ?hz).mono ?_); (case hx => rw [← HHD.out, HQL.out]; rfl); (case hl => have := HSZ.out; omega); (case hz => have := HBZ.out; have := B5.out.size; omega); rintro e1 W6 ⟨⟨v6, rfl⟩, hB, hw⟩; have BB6 := Lib.hid hB; have W06 := Lib.hid ((Wr.of_below B5.out (by have := HBZ.out; omega)).trans hw); have hX := hw.blk X5.out (by have := HBZ.out; omega) (by decide); have x4 := (blk_cell hX 4).trans rfl; clear hB hw hX m0 m2))
    go_loopg [51] sn (fun g v51 W' => ∃ j : Nat, v51 = .int .i64 (j : Int) ∧ Hid (g = sn - j) ∧ Hid (j ≤ sn) ∧ Hid (BF b (acc ++ hd ++ tells ((trs kids).take j)) W') ∧ Hid (Wr b W W'))
    case atStart => exact ⟨0, rfl, Lib.hid rfl, Lib.hid (Nat.zero_le _), Lib.hid (by rw [List.take_zero]; simp only [tells, List.append_nil]; exact BB6.out), W06⟩
    case round =>
      obtain ⟨j, rfl, HG, HJ, HBB, HWR⟩ := hrel
      have hj0 := HJ.out
      have HZ := Lib.hid (show b + 1 ≤ wr.heap.size by have := HBZ.out; have := HWR.out.bel.size; omega)
      by_cases hj : j < sn
      · obtain ⟨hsn, hrow, hkids⟩ := (HH.out.wr HB.out HWR.out).out_
        simp only at hsn hrow
        have d2 : decide ((j : Int) < (sn : Int)) = true := by simp; omega
        have hjm : (j : Int) < (sn : Int) := by omega
        have hjk : j < kids.length := by omega
        have hjl : j < (kids.map Mt.tv).length := by rw [List.length_map]; exact hjk
        obtain ⟨b', off', hbe, hvs⟩ := (own_Vv hrow).some (by omega)
        subst hbe
        obtain ⟨w0, w1, w2, w3, w4, w5⟩ := hvs.at_ j hjl
        obtain ⟨m, hm⟩ : ∃ m, kids[j]'hjk = m := ⟨_, rfl⟩
        have hmm : m ∈ kids := by rw [← hm]; exact List.getElem_mem _
        have e1 : (kids.map Mt.tv)[j]'hjl = m.tv := by rw [List.getElem_map, hm]
        rw [e1] at w0 w1 w2 w3 w4 w5
        obtain ⟨⟨g0, g1, g2, g3⟩, hnd⟩ : ∃ x, m.nd = x := ⟨_, rfl⟩
        obtain ⟨⟨tA, tn, tc⟩, hsl⟩ : ∃ x, m.sl = x := ⟨_, rfl⟩
        obtain ⟨E, hE⟩ : ∃ E, deep m.tr = E := ⟨_, rfl⟩
        simp only [Mt.tv, tr_nd, hnd, hsl, hE] at w0 w1 w2 w3 w4 w5
        have hjt : j < (trs kids).length := by rw [trs_length]; exact hjk
        have hmt : (trs kids)[j]'hjt = m.tr := by simp only [trs_map, List.getElem_map, hm]
        have htm : m.tr ∈ trs kids := by rw [← hmt]; exact List.getElem_mem _
        have hst := tells_snoc ((trs kids).take j) m.tr
        rw [← hmt, ← List.take_succ_eq_append_getElem hjt, hmt] at hst
        have hle := tells_take (trs kids) (j + 1)
        rw [hst, List.length_append, List.length_append] at hle
        have hfl2 : (flat m.tr).length ≤ 4294967296 := by
          have h1 : (flats (trs kids)).length = (flats (trs (kids.take j))).length + (flats (trs (kids.drop j))).length := by rw [← List.length_append, ← flats_append, ← trs_append, List.take_append_drop]
          rw [List.drop_eq_getElem_cons hjk, hm, trs, flats, List.length_append] at h1
          have := HLIM.out
          omega
        have bO := (Below.refl _ wr).alloc (Nat.le_refl _) (.cells #[.int .i64 g0, .string g1, .int .i64 g2, .int .i64 g3, .slice tA tn tc, .int .i64 (E : Int)] 48)
        have BO := Lib.hid bO
        have XO := Lib.hid (blk_new wr (.cells #[.int .i64 g0, .string g1, .int .i64 g2, .int .i64 g3, .slice tA tn tc, .int .i64 (E : Int)] 48))
        have HBO := Lib.hid (HBB.out.below bO)
        have HWO := Lib.hid (HWR.out.trans (Wr.of_below bO (by have := HZ.out; omega)))
        have hso : (wr.alloc (.cells #[.int .i64 g0, .string g1, .int .i64 g2, .int .i64 g3, .slice tA tn tc, .int .i64 (E : Int)] 48)).heap.size = wr.heap.size + 1 := Array.size_push _
        have HSO := Lib.hid hso
        have HMH := Lib.hid ((hkids m hmm).below bO)
        have HST := Lib.hid hst
        have HLE := Lib.hid hle
        have CM : ∀ (V : World) (L : List UInt8), BF b L V → Wr b W V → Hold V base m → L.length + (tell m.tr).length ≤ 1099511627776 → Calls Tryz.prog 31 #[.agg #[.int .i64 g0, .string g1, .int .i64 g2, .int .i64 g3, .slice tA tn tc, .int .i64 (E : Int)], .pointer (some ⟨b, 0, none⟩)] V fun e W' => e = .returned (.tuple #[]) ∧ BF b (L ++ tell m.tr) W' ∧ Wr b V W' := fun V L h1 h2 h3 h4 =>
          IH.out m hmm b V base g0 g1 g2 g3 tA tn tc (E : Int) L h3 (okTs_mem HOKS.out htm) hnd hsl h1 (by have := HBZ.out; have := h2.bel.size; omega) (HPW.out.below h2.bel HGB.out) HGB.out (fun x hx => HTX.out x (nd_flats htm x hx)) h4 hfl2
        have HCM := Lib.hid CM
        clear CM hm e1 hvs hnd hsl hE hrow hkids hsn hmt htm hst hle hfl2 bO hso
        by_cases hz : j = 0
        · have d4 : decide ((0 : Int) < (j : Int)) = false := by simp; omega
          have d5 : decide (0 < j) = false := by simp; omega
          have HL0 := Lib.hid (show (tells ((trs kids).take j)).length + (tell m.tr).length ≤ (tells (trs kids)).length by have := HLE.out; omega)
          have HJ0 := Lib.hid hz
          clear hz
          go_wp2_with (first | (go_at_call 31; (with_reducible refine (HCM.out _ _ HBO.out HWO.out HMH.out ?hl2).mono ?_); (case hl2 => have := HL0.out; have := HSZ.out; rw [List.length_append, List.length_append]; omega); rintro e1 W8 ⟨rfl, hB, hw⟩; have BB8 := Lib.hid hB; have W08 := Lib.hid (HWO.out.trans hw); clear hB hw))
          go_roundg (sn - (j + 1))
          case rel => exact ⟨j + 1, rfl, Lib.hid rfl, Lib.hid hj, Lib.hid (by rw [HST.out, if_pos (by rw [HJ0.out]; rfl), List.append_nil, ← List.append_assoc]; exact BB8.out), W08⟩
          case measure => have := HG.out; omega
        · have d4 : decide ((0 : Int) < (j : Int)) = true := by simp; omega
          have d5 : decide (0 < j) = true := by simp; omega
          have hne : (trs kids).take j ≠ [] := fun e => by have := congrArg List.length e; rw [List.length_take, List.length_nil] at this; omega
          have HL0 := Lib.hid (show (tells ((trs kids).take j)).length + 1 + (tell m.tr).length ≤ (tells (trs kids)).length by have := HLE.out; rw [if_neg hne, List.length_singleton] at this; omega)
          have HNE := Lib.hid hne
          clear hz hne
          go_wp2_with (first | (go_at_call 52; (with_reducible refine (writeK b _ [44] _ ?hx _ HBO.out ?hl ?hz).mono ?_); (case hx => rfl); (case hl => have := HL0.out; have := HSZ.out; rw [List.length_append, List.length_append, List.length_singleton]; omega); (case hz => have := HZ.out; have := HSO.out; omega); rintro e1 W7 ⟨⟨v7, rfl⟩, hB, hw⟩; have BB7 := Lib.hid hB; have W07 := Lib.hid (HWO.out.trans hw); have HM7 := Lib.hid (HMH.out.wr HBO.out hw); have hX := hw.blk XO.out (by have := HZ.out; omega) (by decide); have q0 := (blk_cell hX 0).trans rfl; have q1 := (blk_cell hX 1).trans rfl; have q2 := (blk_cell hX 2).trans rfl; have q3 := (blk_cell hX 3).trans rfl; have q4 := (blk_cell hX 4).trans rfl; have q5 := (blk_cell hX 5).trans rfl; clear hB hw hX) | (go_at_call 31; (with_reducible refine (HCM.out _ _ BB7.out W07.out HM7.out ?hl2).mono ?_); (case hl2 => have := HL0.out; have := HSZ.out; rw [List.length_append, List.length_append, List.length_append, List.length_singleton]; omega); rintro e1 W8 ⟨rfl, hB, hw⟩; have BB8 := Lib.hid hB; have W08 := Lib.hid (W07.out.trans hw); clear hB hw))
          go_roundg (sn - (j + 1))
          case rel => exact ⟨j + 1, rfl, Lib.hid rfl, Lib.hid hj, Lib.hid (by rw [HST.out, if_neg HNE.out, ← List.append_assoc, ← List.append_assoc]; exact BB8.out), W08⟩
          case measure => have := HG.out; omega
      · have d2 : decide ((j : Int) < (sn : Int)) = false := by simp; omega
        have hB9 := HBB.out
        rw [List.take_of_length_le (by rw [trs_length]; have := HSN.out; omega)] at hB9
        have HB9 := Lib.hid hB9
        clear hB9
        go_wp2_with (first | (go_at_call 52; (with_reducible refine (writeK b _ ft _ ?hx _ HB9.out ?hl ?hz).mono ?_); (case hx => rw [← HFT.out]; rfl); (case hl => have := HSZ.out; rw [List.length_append, List.length_append]; omega); (case hz => exact HZ.out); rintro e1 W9 ⟨⟨v9, rfl⟩, hB, hw⟩; have BB9 := Lib.hid hB; have W09 := Lib.hid (HWR.out.trans hw); clear hB hw))
        go_end0
        refine ⟨rfl, ?_, W09.out⟩
        have hb9 := BB9.out
        simp only [List.append_assoc] at hb9 ⊢
        exact hb9
  · simp only at h0
    subst h0
    clear hmay
    go_enter Tryz.func31, Tryz.ntmps31
    go_wp2_with (first | (go_at_call 49; (with_reducible refine (CQ.out _).mono ?_); rintro e1 W5 ⟨rfl, hb⟩; have B5 := Lib.hid (BV.out.trans (hb.mono BV.out.size)); have X5 := Lib.hid (blk_below XV.out hb); have N5 := Lib.hid (blk_below NV.out hb); clear hb n0 n1 n2 n3; have m0 := (blk_cell N5.out 0).trans rfl; have m2 := (blk_cell N5.out 2).trans rfl) | (go_at_call 52; (with_reducible refine (writeK b acc hd _ ?hx _ (HB.out.below B5.out) ?hl ?hz).mono ?_); (case hx => rw [← HHD.out]; rfl); (case hl => have := HSZ.out; omega); (case hz => have := HBZ.out; have := B5.out.size; omega); rintro e1 W6 ⟨⟨v6, rfl⟩, hB, hw⟩; have BB6 := Lib.hid hB; have W06 := Lib.hid ((Wr.of_below B5.out (by have := HBZ.out; omega)).trans hw); have hX := hw.blk X5.out (by have := HBZ.out; omega) (by decide); have x4 := (blk_cell hX 4).trans rfl; clear hB hw hX m0 m2))
    go_loopg [51] sn (fun g v51 W' => ∃ j : Nat, v51 = .int .i64 (j : Int) ∧ Hid (g = sn - j) ∧ Hid (j ≤ sn) ∧ Hid (BF b (acc ++ hd ++ tells ((trs kids).take j)) W') ∧ Hid (Wr b W W'))
    case atStart => exact ⟨0, rfl, Lib.hid rfl, Lib.hid (Nat.zero_le _), Lib.hid (by rw [List.take_zero]; simp only [tells, List.append_nil]; exact BB6.out), W06⟩
    case round =>
      obtain ⟨j, rfl, HG, HJ, HBB, HWR⟩ := hrel
      have hj0 := HJ.out
      have HZ := Lib.hid (show b + 1 ≤ wr.heap.size by have := HBZ.out; have := HWR.out.bel.size; omega)
      by_cases hj : j < sn
      · obtain ⟨hsn, hrow, hkids⟩ := (HH.out.wr HB.out HWR.out).out_
        simp only at hsn hrow
        have d2 : decide ((j : Int) < (sn : Int)) = true := by simp; omega
        have hjm : (j : Int) < (sn : Int) := by omega
        have hjk : j < kids.length := by omega
        have hjl : j < (kids.map Mt.tv).length := by rw [List.length_map]; exact hjk
        obtain ⟨b', off', hbe, hvs⟩ := (own_Vv hrow).some (by omega)
        subst hbe
        obtain ⟨w0, w1, w2, w3, w4, w5⟩ := hvs.at_ j hjl
        obtain ⟨m, hm⟩ : ∃ m, kids[j]'hjk = m := ⟨_, rfl⟩
        have hmm : m ∈ kids := by rw [← hm]; exact List.getElem_mem _
        have e1 : (kids.map Mt.tv)[j]'hjl = m.tv := by rw [List.getElem_map, hm]
        rw [e1] at w0 w1 w2 w3 w4 w5
        obtain ⟨⟨g0, g1, g2, g3⟩, hnd⟩ : ∃ x, m.nd = x := ⟨_, rfl⟩
        obtain ⟨⟨tA, tn, tc⟩, hsl⟩ : ∃ x, m.sl = x := ⟨_, rfl⟩
        obtain ⟨E, hE⟩ : ∃ E, deep m.tr = E := ⟨_, rfl⟩
        simp only [Mt.tv, tr_nd, hnd, hsl, hE] at w0 w1 w2 w3 w4 w5
        have hjt : j < (trs kids).length := by rw [trs_length]; exact hjk
        have hmt : (trs kids)[j]'hjt = m.tr := by simp only [trs_map, List.getElem_map, hm]
        have htm : m.tr ∈ trs kids := by rw [← hmt]; exact List.getElem_mem _
        have hst := tells_snoc ((trs kids).take j) m.tr
        rw [← hmt, ← List.take_succ_eq_append_getElem hjt, hmt] at hst
        have hle := tells_take (trs kids) (j + 1)
        rw [hst, List.length_append, List.length_append] at hle
        have hfl2 : (flat m.tr).length ≤ 4294967296 := by
          have h1 : (flats (trs kids)).length = (flats (trs (kids.take j))).length + (flats (trs (kids.drop j))).length := by rw [← List.length_append, ← flats_append, ← trs_append, List.take_append_drop]
          rw [List.drop_eq_getElem_cons hjk, hm, trs, flats, List.length_append] at h1
          have := HLIM.out
          omega
        have bO := (Below.refl _ wr).alloc (Nat.le_refl _) (.cells #[.int .i64 g0, .string g1, .int .i64 g2, .int .i64 g3, .slice tA tn tc, .int .i64 (E : Int)] 48)
        have BO := Lib.hid bO
        have XO := Lib.hid (blk_new wr (.cells #[.int .i64 g0, .string g1, .int .i64 g2, .int .i64 g3, .slice tA tn tc, .int .i64 (E : Int)] 48))
        have HBO := Lib.hid (HBB.out.below bO)
        have HWO := Lib.hid (HWR.out.trans (Wr.of_below bO (by have := HZ.out; omega)))
        have hso : (wr.alloc (.cells #[.int .i64 g0, .string g1, .int .i64 g2, .int .i64 g3, .slice tA tn tc, .int .i64 (E : Int)] 48)).heap.size = wr.heap.size + 1 := Array.size_push _
        have HSO := Lib.hid hso
        have HMH := Lib.hid ((hkids m hmm).below bO)
        have HST := Lib.hid hst
        have HLE := Lib.hid hle
        have CM : ∀ (V : World) (L : List UInt8), BF b L V → Wr b W V → Hold V base m → L.length + (tell m.tr).length ≤ 1099511627776 → Calls Tryz.prog 31 #[.agg #[.int .i64 g0, .string g1, .int .i64 g2, .int .i64 g3, .slice tA tn tc, .int .i64 (E : Int)], .pointer (some ⟨b, 0, none⟩)] V fun e W' => e = .returned (.tuple #[]) ∧ BF b (L ++ tell m.tr) W' ∧ Wr b V W' := fun V L h1 h2 h3 h4 =>
          IH.out m hmm b V base g0 g1 g2 g3 tA tn tc (E : Int) L h3 (okTs_mem HOKS.out htm) hnd hsl h1 (by have := HBZ.out; have := h2.bel.size; omega) (HPW.out.below h2.bel HGB.out) HGB.out (fun x hx => HTX.out x (nd_flats htm x hx)) h4 hfl2
        have HCM := Lib.hid CM
        clear CM hm e1 hvs hnd hsl hE hrow hkids hsn hmt htm hst hle hfl2 bO hso
        by_cases hz : j = 0
        · have d4 : decide ((0 : Int) < (j : Int)) = false := by simp; omega
          have d5 : decide (0 < j) = false := by simp; omega
          have HL0 := Lib.hid (show (tells ((trs kids).take j)).length + (tell m.tr).length ≤ (tells (trs kids)).length by have := HLE.out; omega)
          have HJ0 := Lib.hid hz
          clear hz
          go_wp2_with (first | (go_at_call 31; (with_reducible refine (HCM.out _ _ HBO.out HWO.out HMH.out ?hl2).mono ?_); (case hl2 => have := HL0.out; have := HSZ.out; rw [List.length_append, List.length_append]; omega); rintro e1 W8 ⟨rfl, hB, hw⟩; have BB8 := Lib.hid hB; have W08 := Lib.hid (HWO.out.trans hw); clear hB hw))
          go_roundg (sn - (j + 1))
          case rel => exact ⟨j + 1, rfl, Lib.hid rfl, Lib.hid hj, Lib.hid (by rw [HST.out, if_pos (by rw [HJ0.out]; rfl), List.append_nil, ← List.append_assoc]; exact BB8.out), W08⟩
          case measure => have := HG.out; omega
        · have d4 : decide ((0 : Int) < (j : Int)) = true := by simp; omega
          have d5 : decide (0 < j) = true := by simp; omega
          have hne : (trs kids).take j ≠ [] := fun e => by have := congrArg List.length e; rw [List.length_take, List.length_nil] at this; omega
          have HL0 := Lib.hid (show (tells ((trs kids).take j)).length + 1 + (tell m.tr).length ≤ (tells (trs kids)).length by have := HLE.out; rw [if_neg hne, List.length_singleton] at this; omega)
          have HNE := Lib.hid hne
          clear hz hne
          go_wp2_with (first | (go_at_call 52; (with_reducible refine (writeK b _ [44] _ ?hx _ HBO.out ?hl ?hz).mono ?_); (case hx => rfl); (case hl => have := HL0.out; have := HSZ.out; rw [List.length_append, List.length_append, List.length_singleton]; omega); (case hz => have := HZ.out; have := HSO.out; omega); rintro e1 W7 ⟨⟨v7, rfl⟩, hB, hw⟩; have BB7 := Lib.hid hB; have W07 := Lib.hid (HWO.out.trans hw); have HM7 := Lib.hid (HMH.out.wr HBO.out hw); have hX := hw.blk XO.out (by have := HZ.out; omega) (by decide); have q0 := (blk_cell hX 0).trans rfl; have q1 := (blk_cell hX 1).trans rfl; have q2 := (blk_cell hX 2).trans rfl; have q3 := (blk_cell hX 3).trans rfl; have q4 := (blk_cell hX 4).trans rfl; have q5 := (blk_cell hX 5).trans rfl; clear hB hw hX) | (go_at_call 31; (with_reducible refine (HCM.out _ _ BB7.out W07.out HM7.out ?hl2).mono ?_); (case hl2 => have := HL0.out; have := HSZ.out; rw [List.length_append, List.length_append, List.length_append, List.length_singleton]; omega); rintro e1 W8 ⟨rfl, hB, hw⟩; have BB8 := Lib.hid hB; have W08 := Lib.hid (W07.out.trans hw); clear hB hw))
          go_roundg (sn - (j + 1))
          case rel => exact ⟨j + 1, rfl, Lib.hid rfl, Lib.hid hj, Lib.hid (by rw [HST.out, if_neg HNE.out, ← List.append_assoc, ← List.append_assoc]; exact BB8.out), W08⟩
          case measure => have := HG.out; omega
      · have d2 : decide ((j : Int) < (sn : Int)) = false := by simp; omega
        have hB9 := HBB.out
        rw [List.take_of_length_le (by rw [trs_length]; have := HSN.out; omega)] at hB9
        have HB9 := Lib.hid hB9
        clear hB9
        go_wp2_with (first | (go_at_call 52; (with_reducible refine (writeK b _ ft _ ?hx _ HB9.out ?hl ?hz).mono ?_); (case hx => rw [← HFT.out]; rfl); (case hl => have := HSZ.out; rw [List.length_append, List.length_append]; omega); (case hz => exact HZ.out); rintro e1 W9 ⟨⟨v9, rfl⟩, hB, hw⟩; have BB9 := Lib.hid hB; have W09 := Lib.hid (HWR.out.trans hw); clear hB hw))
        go_end0
        refine ⟨rfl, ?_, W09.out⟩
        have hb9 := BB9.out
        simp only [List.append_assoc] at hb9 ⊢
        exact hb9
  · simp only at h0
    subst h0
    clear hmay
    go_enter Tryz.func31, Tryz.ntmps31
    go_wp2_with (first | (go_at_call 49; (with_reducible refine (CQ.out _).mono ?_); rintro e1 W5 ⟨rfl, hb⟩; have B5 := Lib.hid (BV.out.trans (hb.mono BV.out.size)); have X5 := Lib.hid (blk_below XV.out hb); have N5 := Lib.hid (blk_below NV.out hb); clear hb n0 n1 n2 n3; have m0 := (blk_cell N5.out 0).trans rfl; have m2 := (blk_cell N5.out 2).trans rfl) | (go_at_call 52; (with_reducible refine (writeK b acc hd _ ?hx _ (HB.out.below B5.out) ?hl ?hz).mono ?_); (case hx => rw [← HHD.out, show head ⟨6, f1, f2, f3⟩ = quo f1 ++ [58] from rfl, ← HQL.out]; simp); (case hl => have := HSZ.out; omega); (case hz => have := HBZ.out; have := B5.out.size; omega); rintro e1 W6 ⟨⟨v6, rfl⟩, hB, hw⟩; have BB6 := Lib.hid hB; have W06 := Lib.hid ((Wr.of_below B5.out (by have := HBZ.out; omega)).trans hw); have hX := hw.blk X5.out (by have := HBZ.out; omega) (by decide); have x4 := (blk_cell hX 4).trans rfl; clear hB hw hX m0 m2))
    go_loopg [51] sn (fun g v51 W' => ∃ j : Nat, v51 = .int .i64 (j : Int) ∧ Hid (g = sn - j) ∧ Hid (j ≤ sn) ∧ Hid (BF b (acc ++ hd ++ tells ((trs kids).take j)) W') ∧ Hid (Wr b W W'))
    case atStart => exact ⟨0, rfl, Lib.hid rfl, Lib.hid (Nat.zero_le _), Lib.hid (by rw [List.take_zero]; simp only [tells, List.append_nil]; exact BB6.out), W06⟩
    case round =>
      obtain ⟨j, rfl, HG, HJ, HBB, HWR⟩ := hrel
      have hj0 := HJ.out
      have HZ := Lib.hid (show b + 1 ≤ wr.heap.size by have := HBZ.out; have := HWR.out.bel.size; omega)
      by_cases hj : j < sn
      · obtain ⟨hsn, hrow, hkids⟩ := (HH.out.wr HB.out HWR.out).out_
        simp only at hsn hrow
        have d2 : decide ((j : Int) < (sn : Int)) = true := by simp; omega
        have hjm : (j : Int) < (sn : Int) := by omega
        have hjk : j < kids.length := by omega
        have hjl : j < (kids.map Mt.tv).length := by rw [List.length_map]; exact hjk
        obtain ⟨b', off', hbe, hvs⟩ := (own_Vv hrow).some (by omega)
        subst hbe
        obtain ⟨w0, w1, w2, w3, w4, w5⟩ := hvs.at_ j hjl
        obtain ⟨m, hm⟩ : ∃ m, kids[j]'hjk = m := ⟨_, rfl⟩
        have hmm : m ∈ kids := by rw [← hm]; exact List.getElem_mem _
        have e1 : (kids.map Mt.tv)[j]'hjl = m.tv := by rw [List.getElem_map, hm]
        rw [e1] at w0 w1 w2 w3 w4 w5
        obtain ⟨⟨g0, g1, g2, g3⟩, hnd⟩ : ∃ x, m.nd = x := ⟨_, rfl⟩
        obtain ⟨⟨tA, tn, tc⟩, hsl⟩ : ∃ x, m.sl = x := ⟨_, rfl⟩
        obtain ⟨E, hE⟩ : ∃ E, deep m.tr = E := ⟨_, rfl⟩
        simp only [Mt.tv, tr_nd, hnd, hsl, hE] at w0 w1 w2 w3 w4 w5
        have hjt : j < (trs kids).length := by rw [trs_length]; exact hjk
        have hmt : (trs kids)[j]'hjt = m.tr := by simp only [trs_map, List.getElem_map, hm]
        have htm : m.tr ∈ trs kids := by rw [← hmt]; exact List.getElem_mem _
        have hst := tells_snoc ((trs kids).take j) m.tr
        rw [← hmt, ← List.take_succ_eq_append_getElem hjt, hmt] at hst
        have hle := tells_take (trs kids) (j + 1)
        rw [hst, List.length_append, List.length_append] at hle
        have hfl2 : (flat m.tr).length ≤ 4294967296 := by
          have h1 : (flats (trs kids)).length = (flats (trs (kids.take j))).length + (flats (trs (kids.drop j))).length := by rw [← List.length_append, ← flats_append, ← trs_append, List.take_append_drop]
          rw [List.drop_eq_getElem_cons hjk, hm, trs, flats, List.length_append] at h1
          have := HLIM.out
          omega
        have bO := (Below.refl _ wr).alloc (Nat.le_refl _) (.cells #[.int .i64 g0, .string g1, .int .i64 g2, .int .i64 g3, .slice tA tn tc, .int .i64 (E : Int)] 48)
        have BO := Lib.hid bO
        have XO := Lib.hid (blk_new wr (.cells #[.int .i64 g0, .string g1, .int .i64 g2, .int .i64 g3, .slice tA tn tc, .int .i64 (E : Int)] 48))
        have HBO := Lib.hid (HBB.out.below bO)
        have HWO := Lib.hid (HWR.out.trans (Wr.of_below bO (by have := HZ.out; omega)))
        have hso : (wr.alloc (.cells #[.int .i64 g0, .string g1, .int .i64 g2, .int .i64 g3, .slice tA tn tc, .int .i64 (E : Int)] 48)).heap.size = wr.heap.size + 1 := Array.size_push _
        have HSO := Lib.hid hso
        have HMH := Lib.hid ((hkids m hmm).below bO)
        have HST := Lib.hid hst
        have HLE := Lib.hid hle
        have CM : ∀ (V : World) (L : List UInt8), BF b L V → Wr b W V → Hold V base m → L.length + (tell m.tr).length ≤ 1099511627776 → Calls Tryz.prog 31 #[.agg #[.int .i64 g0, .string g1, .int .i64 g2, .int .i64 g3, .slice tA tn tc, .int .i64 (E : Int)], .pointer (some ⟨b, 0, none⟩)] V fun e W' => e = .returned (.tuple #[]) ∧ BF b (L ++ tell m.tr) W' ∧ Wr b V W' := fun V L h1 h2 h3 h4 =>
          IH.out m hmm b V base g0 g1 g2 g3 tA tn tc (E : Int) L h3 (okTs_mem HOKS.out htm) hnd hsl h1 (by have := HBZ.out; have := h2.bel.size; omega) (HPW.out.below h2.bel HGB.out) HGB.out (fun x hx => HTX.out x (nd_flats htm x hx)) h4 hfl2
        have HCM := Lib.hid CM
        clear CM hm e1 hvs hnd hsl hE hrow hkids hsn hmt htm hst hle hfl2 bO hso
        by_cases hz : j = 0
        · have d4 : decide ((0 : Int) < (j : Int)) = false := by simp; omega
          have d5 : decide (0 < j) = false := by simp; omega
          have HL0 := Lib.hid (show (tells ((trs kids).take j)).length + (tell m.tr).length ≤ (tells (trs kids)).length by have := HLE.out; omega)
          have HJ0 := Lib.hid hz
          clear hz
          go_wp2_with (first | (go_at_call 31; (with_reducible refine (HCM.out _ _ HBO.out HWO.out HMH.out ?hl2).mono ?_); (case hl2 => have := HL0.out; have := HSZ.out; rw [List.length_append, List.length_append]; omega); rintro e1 W8 ⟨rfl, hB, hw⟩; have BB8 := Lib.hid hB; have W08 := Lib.hid (HWO.out.trans hw); clear hB hw))
          go_roundg (sn - (j + 1))
          case rel => exact ⟨j + 1, rfl, Lib.hid rfl, Lib.hid hj, Lib.hid (by rw [HST.out, if_pos (by rw [HJ0.out]; rfl), List.append_nil, ← List.append_assoc]; exact BB8.out), W08⟩
          case measure => have := HG.out; omega
        · have d4 : decide ((0 : Int) < (j : Int)) = true := by simp; omega
          have d5 : decide (0 < j) = true := by simp; omega
          have hne : (trs kids).take j ≠ [] := fun e => by have := congrArg List.length e; rw [List.length_take, List.length_nil] at this; omega
          have HL0 := Lib.hid (show (tells ((trs kids).take j)).length + 1 + (tell m.tr).length ≤ (tells (trs kids)).length by have := HLE.out; rw [if_neg hne, List.length_singleton] at this; omega)
          have HNE := Lib.hid hne
          clear hz hne
          go_wp2_with (first | (go_at_call 52; (with_reducible refine (writeK b _ [44] _ ?hx _ HBO.out ?hl ?hz).mono ?_); (case hx => rfl); (case hl => have := HL0.out; have := HSZ.out; rw [List.length_append, List.length_append, List.length_singleton]; omega); (case hz => have := HZ.out; have := HSO.out; omega); rintro e1 W7 ⟨⟨v7, rfl⟩, hB, hw⟩; have BB7 := Lib.hid hB; have W07 := Lib.hid (HWO.out.trans hw); have HM7 := Lib.hid (HMH.out.wr HBO.out hw); have hX := hw.blk XO.out (by have := HZ.out; omega) (by decide); have q0 := (blk_cell hX 0).trans rfl; have q1 := (blk_cell hX 1).trans rfl; have q2 := (blk_cell hX 2).trans rfl; have q3 := (blk_cell hX 3).trans rfl; have q4 := (blk_cell hX 4).trans rfl; have q5 := (blk_cell hX 5).trans rfl; clear hB hw hX) | (go_at_call 31; (with_reducible refine (HCM.out _ _ BB7.out W07.out HM7.out ?hl2).mono ?_); (case hl2 => have := HL0.out; have := HSZ.out; rw [List.length_append, List.length_append, List.length_append, List.length_singleton]; omega); rintro e1 W8 ⟨rfl, hB, hw⟩; have BB8 := Lib.hid hB; have W08 := Lib.hid (W07.out.trans hw); clear hB hw))
          go_roundg (sn - (j + 1))
          case rel => exact ⟨j + 1, rfl, Lib.hid rfl, Lib.hid hj, Lib.hid (by rw [HST.out, if_neg HNE.out, ← List.append_assoc, ← List.append_assoc]; exact BB8.out), W08⟩
          case measure => have := HG.out; omega
      · have d2 : decide ((j : Int) < (sn : Int)) = false := by simp; omega
        have hB9 := HBB.out
        rw [List.take_of_length_le (by rw [trs_length]; have := HSN.out; omega)] at hB9
        have HB9 := Lib.hid hB9
        clear hB9
        go_wp2_with (first | (go_at_call 52; (with_reducible refine (writeK b _ ft _ ?hx _ HB9.out ?hl ?hz).mono ?_); (case hx => rw [← HFT.out]; rfl); (case hl => have := HSZ.out; rw [List.length_append, List.length_append]; omega); (case hz => exact HZ.out); rintro e1 W9 ⟨⟨v9, rfl⟩, hB, hw⟩; have BB9 := Lib.hid hB; have W09 := Lib.hid (HWR.out.trans hw); clear hB hw))
        go_end0
        refine ⟨rfl, ?_, W09.out⟩
        have hb9 := BB9.out
        simp only [List.append_assoc] at hb9 ⊢
        exact hb9
  · simp only at h0
    subst h0
    clear hmay
    go_enter Tryz.func31, Tryz.ntmps31
    go_wp2_with (first | (go_at_call 49; (with_reducible refine (CQ.out _).mono ?_); rintro e1 W5 ⟨rfl, hb⟩; have B5 := Lib.hid (BV.out.trans (hb.mono BV.out.size)); have X5 := Lib.hid (blk_below XV.out hb); have N5 := Lib.hid (blk_below NV.out hb); clear hb n0 n1 n2 n3; have m0 := (blk_cell N5.out 0).trans rfl; have m2 := (blk_cell N5.out 2).trans rfl) | (go_at_call 52; (with_reducible refine (writeK b acc hd _ ?hx _ (HB.out.below B5.out) ?hl ?hz).mono ?_); (case hx => rw [← HHD.out]; rfl); (case hl => have := HSZ.out; omega); (case hz => have := HBZ.out; have := B5.out.size; omega); rintro e1 W6 ⟨⟨v6, rfl⟩, hB, hw⟩; have BB6 := Lib.hid hB; have W06 := Lib.hid ((Wr.of_below B5.out (by have := HBZ.out; omega)).trans hw); have hX := hw.blk X5.out (by have := HBZ.out; omega) (by decide); have x4 := (blk_cell hX 4).trans rfl; clear hB hw hX m0 m2))
    go_loopg [51] sn (fun g v51 W' => ∃ j : Nat, v51 = .int .i64 (j : Int) ∧ Hid (g = sn - j) ∧ Hid (j ≤ sn) ∧ Hid (BF b (acc ++ hd ++ tells ((trs kids).take j)) W') ∧ Hid (Wr b W W'))
    case atStart => exact ⟨0, rfl, Lib.hid rfl, Lib.hid (Nat.zero_le _), Lib.hid (by rw [List.take_zero]; simp only [tells, List.append_nil]; exact BB6.out), W06⟩
    case round =>
      obtain ⟨j, rfl, HG, HJ, HBB, HWR⟩ := hrel
      have hj0 := HJ.out
      have HZ := Lib.hid (show b + 1 ≤ wr.heap.size by have := HBZ.out; have := HWR.out.bel.size; omega)
      by_cases hj : j < sn
      · obtain ⟨hsn, hrow, hkids⟩ := (HH.out.wr HB.out HWR.out).out_
        simp only at hsn hrow
        have d2 : decide ((j : Int) < (sn : Int)) = true := by simp; omega
        have hjm : (j : Int) < (sn : Int) := by omega
        have hjk : j < kids.length := by omega
        have hjl : j < (kids.map Mt.tv).length := by rw [List.length_map]; exact hjk
        obtain ⟨b', off', hbe, hvs⟩ := (own_Vv hrow).some (by omega)
        subst hbe
        obtain ⟨w0, w1, w2, w3, w4, w5⟩ := hvs.at_ j hjl
        obtain ⟨m, hm⟩ : ∃ m, kids[j]'hjk = m := ⟨_, rfl⟩
        have hmm : m ∈ kids := by rw [← hm]; exact List.getElem_mem _
        have e1 : (kids.map Mt.tv)[j]'hjl = m.tv := by rw [List.getElem_map, hm]
        rw [e1] at w0 w1 w2 w3 w4 w5
        obtain ⟨⟨g0, g1, g2, g3⟩, hnd⟩ : ∃ x, m.nd = x := ⟨_, rfl⟩
        obtain ⟨⟨tA, tn, tc⟩, hsl⟩ : ∃ x, m.sl = x := ⟨_, rfl⟩
        obtain ⟨E, hE⟩ : ∃ E, deep m.tr = E := ⟨_, rfl⟩
        simp only [Mt.tv, tr_nd, hnd, hsl, hE] at w0 w1 w2 w3 w4 w5
        have hjt : j < (trs kids).length := by rw [trs_length]; exact hjk
        have hmt : (trs kids)[j]'hjt = m.tr := by simp only [trs_map, List.getElem_map, hm]
        have htm : m.tr ∈ trs kids := by rw [← hmt]; exact List.getElem_mem _
        have hst := tells_snoc ((trs kids).take j) m.tr
        rw [← hmt, ← List.take_succ_eq_append_getElem hjt, hmt] at hst
        have hle := tells_take (trs kids) (j + 1)
        rw [hst, List.length_append, List.length_append] at hle
        have hfl2 : (flat m.tr).length ≤ 4294967296 := by
          have h1 : (flats (trs kids)).length = (flats (trs (kids.take j))).length + (flats (trs (kids.drop j))).length := by rw [← List.length_append, ← flats_append, ← trs_append, List.take_append_drop]
          rw [List.drop_eq_getElem_cons hjk, hm, trs, flats, List.length_append] at h1
          have := HLIM.out
          omega
        have bO := (Below.refl _ wr).alloc (Nat.le_refl _) (.cells #[.int .i64 g0, .string g1, .int .i64 g2, .int .i64 g3, .slice tA tn tc, .int .i64 (E : Int)] 48)
        have BO := Lib.hid bO
        have XO := Lib.hid (blk_new wr (.cells #[.int .i64 g0, .string g1, .int .i64 g2, .int .i64 g3, .slice tA tn tc, .int .i64 (E : Int)] 48))
        have HBO := Lib.hid (HBB.out.below bO)
        have HWO := Lib.hid (HWR.out.trans (Wr.of_below bO (by have := HZ.out; omega)))
        have hso : (wr.alloc (.cells #[.int .i64 g0, .string g1, .int .i64 g2, .int .i64 g3, .slice tA tn tc, .int .i64 (E : Int)] 48)).heap.size = wr.heap.size + 1 := Array.size_push _
        have HSO := Lib.hid hso
        have HMH := Lib.hid ((hkids m hmm).below bO)
        have HST := Lib.hid hst
        have HLE := Lib.hid hle
        have CM : ∀ (V : World) (L : List UInt8), BF b L V → Wr b W V → Hold V base m → L.length + (tell m.tr).length ≤ 1099511627776 → Calls Tryz.prog 31 #[.agg #[.int .i64 g0, .string g1, .int .i64 g2, .int .i64 g3, .slice tA tn tc, .int .i64 (E : Int)], .pointer (some ⟨b, 0, none⟩)] V fun e W' => e = .returned (.tuple #[]) ∧ BF b (L ++ tell m.tr) W' ∧ Wr b V W' := fun V L h1 h2 h3 h4 =>
          IH.out m hmm b V base g0 g1 g2 g3 tA tn tc (E : Int) L h3 (okTs_mem HOKS.out htm) hnd hsl h1 (by have := HBZ.out; have := h2.bel.size; omega) (HPW.out.below h2.bel HGB.out) HGB.out (fun x hx => HTX.out x (nd_flats htm x hx)) h4 hfl2
        have HCM := Lib.hid CM
        clear CM hm e1 hvs hnd hsl hE hrow hkids hsn hmt htm hst hle hfl2 bO hso
        by_cases hz : j = 0
        · have d4 : decide ((0 : Int) < (j : Int)) = false := by simp; omega
          have d5 : decide (0 < j) = false := by simp; omega
          have HL0 := Lib.hid (show (tells ((trs kids).take j)).length + (tell m.tr).length ≤ (tells (trs kids)).length by have := HLE.out; omega)
          have HJ0 := Lib.hid hz
          clear hz
          go_wp2_with (first | (go_at_call 31; (with_reducible refine (HCM.out _ _ HBO.out HWO.out HMH.out ?hl2).mono ?_); (case hl2 => have := HL0.out; have := HSZ.out; rw [List.length_append, List.length_append]; omega); rintro e1 W8 ⟨rfl, hB, hw⟩; have BB8 := Lib.hid hB; have W08 := Lib.hid (HWO.out.trans hw); clear hB hw))
          go_roundg (sn - (j + 1))
          case rel => exact ⟨j + 1, rfl, Lib.hid rfl, Lib.hid hj, Lib.hid (by rw [HST.out, if_pos (by rw [HJ0.out]; rfl), List.append_nil, ← List.append_assoc]; exact BB8.out), W08⟩
          case measure => have := HG.out; omega
        · have d4 : decide ((0 : Int) < (j : Int)) = true := by simp; omega
          have d5 : decide (0 < j) = true := by simp; omega
          have hne : (trs kids).take j ≠ [] := fun e => by have := congrArg List.length e; rw [List.length_take, List.length_nil] at this; omega
          have HL0 := Lib.hid (show (tells ((trs kids).take j)).length + 1 + (tell m.tr).length ≤ (tells (trs kids)).length by have := HLE.out; rw [if_neg hne, List.length_singleton] at this; omega)
          have HNE := Lib.hid hne
          clear hz hne
          go_wp2_with (first | (go_at_call 52; (with_reducible refine (writeK b _ [44] _ ?hx _ HBO.out ?hl ?hz).mono ?_); (case hx => rfl); (case hl => have := HL0.out; have := HSZ.out; rw [List.length_append, List.length_append, List.length_singleton]; omega); (case hz => have := HZ.out; have := HSO.out; omega); rintro e1 W7 ⟨⟨v7, rfl⟩, hB, hw⟩; have BB7 := Lib.hid hB; have W07 := Lib.hid (HWO.out.trans hw); have HM7 := Lib.hid (HMH.out.wr HBO.out hw); have hX := hw.blk XO.out (by have := HZ.out; omega) (by decide); have q0 := (blk_cell hX 0).trans rfl; have q1 := (blk_cell hX 1).trans rfl; have q2 := (blk_cell hX 2).trans rfl; have q3 := (blk_cell hX 3).trans rfl; have q4 := (blk_cell hX 4).trans rfl; have q5 := (blk_cell hX 5).trans rfl; clear hB hw hX) | (go_at_call 31; (with_reducible refine (HCM.out _ _ BB7.out W07.out HM7.out ?hl2).mono ?_); (case hl2 => have := HL0.out; have := HSZ.out; rw [List.length_append, List.length_append, List.length_append, List.length_singleton]; omega); rintro e1 W8 ⟨rfl, hB, hw⟩; have BB8 := Lib.hid hB; have W08 := Lib.hid (W07.out.trans hw); clear hB hw))
          go_roundg (sn - (j + 1))
          case rel => exact ⟨j + 1, rfl, Lib.hid rfl, Lib.hid hj, Lib.hid (by rw [HST.out, if_neg HNE.out, ← List.append_assoc, ← List.append_assoc]; exact BB8.out), W08⟩
          case measure => have := HG.out; omega
      · have d2 : decide ((j : Int) < (sn : Int)) = false := by simp; omega
        have hB9 := HBB.out
        rw [List.take_of_length_le (by rw [trs_length]; have := HSN.out; omega)] at hB9
        have HB9 := Lib.hid hB9
        clear hB9
        go_wp2_with (first | (go_at_call 52; (with_reducible refine (writeK b _ ft _ ?hx _ HB9.out ?hl ?hz).mono ?_); (case hx => rw [← HFT.out]; rfl); (case hl => have := HSZ.out; rw [List.length_append, List.length_append]; omega); (case hz => exact HZ.out); rintro e1 W9 ⟨⟨v9, rfl⟩, hB, hw⟩; have BB9 := Lib.hid hB; have W09 := Lib.hid (HWR.out.trans hw); clear hB hw))
        go_end0
        refine ⟨rfl, ?_, W09.out⟩
        have hb9 := BB9.out
        simp only [List.append_assoc] at hb9 ⊢
        exact hb9
theorem write_calls : ∀ m : Mt, WC m := Mt.ind write_step
end Go.Proofs.YtoefnmhmiphilaaGreatDoor.Tp

namespace Go.Proofs.YtoefnmhmiphilaaGreatDoor.Tp
open Go Go.RowKit Go.Maps Go.Proofs.YtoefnmhmiphilaaGreatDoorW.PrintWords
theorem len_calls (b : Nat) (L : List UInt8) (W : World) (h : BF b L W) : Calls Tryz.prog 32 #[.pointer (some ⟨b, 0, none⟩)] W fun e W' => e = .returned (.int .i64 (L.length : Int)) ∧ W' = W := by
  have := Tryz.Builder_Len_f b b (Lib.byteCells L) W h
  rwa [Lib.byteCells_length] at this
theorem string_calls (b : Nat) (L : List UInt8) (W : World) (h : BF b L W) (hb : b ≤ W.heap.size) : Calls Tryz.prog 33 #[.pointer (some ⟨b, 0, none⟩)] W fun e W' => e = .returned (.string (mkB L)) ∧ Below b W W' :=
  (Tryz.Builder_String_any_k b b L W h hb).mono fun _ _ ⟨he, _, h2, _⟩ => ⟨he, h2⟩
theorem VM.write_calls_ {W : World} {base : Nat} {t : Tr} {m : Mt} {f0 : Int} {f1 : ByteArray} {f2 f3 : Int} {sA : Option Addr} {sn sc : Nat} {d : Int} (h : VM W base t m f0 f1 f2 f3 sA sn sc d) {b : Nat} (hB : BF b [] W) (hbz : b + 1 ≤ W.heap.size) (hP : PowD W) (hg : 0 < b) (hok : okT t = true) (htx : ∀ x ∈ flat t, x.f1.size ≤ 1048576) (hsz : (tell t).length ≤ 1099511627776) (hl : (flat t).length ≤ 4294967296) :
    Calls Tryz.prog 31 #[.agg #[.int .i64 f0, .string f1, .int .i64 f2, .int .i64 f3, .slice sA sn sc, .int .i64 d], .pointer (some ⟨b, 0, none⟩)] W fun e W' => e = .returned (.tuple #[]) ∧ BF b (tell t) W' ∧ Wr b W W' := by
  have := write_calls m b W base f0 f1 f2 f3 sA sn sc d [] h.hold (by rw [h.tr]; exact hok) h.node h.sl hB hbz hP hg (by rw [h.tr]; exact htx) (by rw [h.tr]; simpa using hsz) (by rw [h.tr]; exact hl)
  rw [h.tr, List.nil_append] at this
  exact this
set_option maxHeartbeats 8000000 in
set_option maxRecDepth 100000 in
theorem pshow_calls (W : World) (A : Option Addr) (n cap : Nat) (o : List Nd) (hL : Lst W A n o) (hP : PowD W) (hbd : ∀ t, apart o = .ok t → (tell (sortT t)).length ≤ 1099511627776) :
    Calls Tryz.prog 18 #[.slice A n cap] W fun e W' => e = .returned (.tuple #[.string (mkB (showOf o).1), .int .i64 (showOf o).2]) ∧ Below W.heap.size W W' := by
  cases ha : apart o with
  | error x =>
    have CA := Lib.hid (apart_err_calls W A n cap o hL ha)
    have hx := apart_code ha
    rw [showOf_err ha]
    clear ha hL hbd hP
    go_enter Tryz.func18, Tryz.ntmps18
    go_wp2_with (first | (go_at_call 25; (with_reducible refine CA.out.mono ?_); rintro e1 W1 ⟨rfl, hb⟩; have B1 := Lib.hid hb; clear hb))
    go_ret2
    exact ⟨rfl, B1.out.alloc B1.out.size _⟩
  | ok t =>
    have CA := Lib.hid (apart_ok_calls W A n cap o hL ha)
    obtain ⟨ha1, ha2, ha3, _, _⟩ := apart_ok.1 ha
    have HFL := Lib.hid (show (flat t).length = n by rw [ha2]; exact hL.len)
    have HOK := Lib.hid ha3
    have HSL := Lib.hid (show (flat (sortT t)).length = n by rw [flat_sort_len, ha2]; exact hL.len)
    have hn : n ≤ 4294967296 := hL.few
    have HTX := Lib.hid (show ∀ x ∈ flat (sortT t), x.f1.size ≤ 1048576 from sort_txt ha2 hL.txt)
    have HBD := Lib.hid (hbd t ha)
    have HPW := Lib.hid hP
    have HGL := Lib.hid hP.lt
    obtain ⟨L, hL2⟩ : ∃ L, tell (sortT t) = L := ⟨_, rfl⟩
    have HLL := Lib.hid hL2
    by_cases hbig : 20000 < L.length
    all_goals
      first | (have d1 : decide ((20000 : Int) < (L.length : Int)) = true := by simp; omega) | (have d1 : decide ((20000 : Int) < (L.length : Int)) = false := by simp; omega)
      first | rw [showOf_big ha (by rw [hL2]; exact hbig)] | rw [showOf_ok ha (by rw [hL2]; exact hbig), hL2]
      clear ha hL ha1 ha2 ha3 hbd hP hL2 hbig
      go_enter Tryz.func18, Tryz.ntmps18
      go_wp2_with (first | (go_at_call 25; (with_reducible refine CA.out.mono ?_); rintro e1 W1 ⟨m, f0, f1, f2, f3, sA, sn, sc, d, rfl, hv, hb⟩; have V1 := Lib.hid hv; have B1 := Lib.hid hb; clear hb hv) | (go_at_call 26; (with_reducible refine ((V1.out.below ((Below.refl _ W1).alloc (Nat.le_refl _) _)).sort_calls_ HOK.out (by rw [HFL.out]; exact hn)).mono ?_); rintro e1 W2 ⟨rfl, m2, hv, hk⟩; have hbk := (hk.block W1.heap.size (by rw [World.size_alloc]; omega) (fun hm => by have := (Hold.lt m V1.out.hold _ hm).2.1; omega)).trans (blk_new W1 _); have B2 := Lib.hid ((B1.out.alloc B1.out.size _).trans (hk.below (Nat.le_trans B1.out.size (by rw [World.size_alloc]; omega)) (fun i hi => (Hold.lt m V1.out.hold i hi).1))); have hbk2 := blk_alloc hbk (.cells #[.pointer none, .slice none 0 0] 55); have y0 := (blk_cell hbk2 0).trans rfl; have y1 := (blk_cell hbk2 1).trans rfl; have y2 := (blk_cell hbk2 2).trans rfl; have y3 := (blk_cell hbk2 3).trans rfl; have y4 := (blk_cell hbk2 4).trans rfl; have y5 := (blk_cell hbk2 5).trans rfl; have bA := (Below.refl _ W2).alloc (Nat.le_refl _) (.cells #[.pointer none, .slice none 0 0] 55); have V3 := Lib.hid (hv.below bA); have B3 := Lib.hid (B2.out.trans (bA.mono B2.out.size)); have hBF : BF W2.heap.size [] (W2.alloc (.cells #[.pointer none, .slice none 0 0] 55)) := .inl ⟨Nat.le_refl _, .slice none 0 0, blk_new W2 _, World.ownsRowF_nil _ _ _ _, by simp [Value.ownBlock]⟩; have BF3 := Lib.hid hBF; have hsz3 : W2.heap.size + 1 ≤ (W2.alloc (.cells #[.pointer none, .slice none 0 0] 55)).heap.size := (by rw [World.size_alloc]; omega); have SZ3 := Lib.hid hsz3; clear hv hk hbk hbk2 bA hBF hsz3) | (go_at_call 31; (with_reducible refine (V3.out.write_calls_ BF3.out SZ3.out ?hp ?hg ?hok HTX.out ?hs ?hl).mono ?_); (case hp => exact HPW.out.below B3.out HGL.out); (case hg => have := HGL.out; have := B2.out.size; omega); (case hok => exact (sort_facts _ HOK.out).1); (case hs => exact HBD.out); (case hl => rw [HSL.out]; exact hn); rw [HLL.out]; rintro e1 W4 ⟨rfl, hB, hw⟩; have BF4 := Lib.hid hB; have B4 := Lib.hid (B3.out.trans (hw.bel.mono B2.out.size)); have SZ4 := Lib.hid (Nat.le_trans SZ3.out hw.bel.size); clear hB hw y0 y1 y2 y3 y4 y5) | (go_at_call 32; (with_reducible refine (len_calls _ _ _ BF4.out).mono ?_); rintro e1 W5 ⟨rfl, hw⟩; have hw2 := hw.symm; clear hw; subst hw2) | (go_at_call 33; (with_reducible refine (string_calls _ _ _ BF4.out (by have := SZ4.out; omega)).mono ?_); rintro e1 W5 ⟨rfl, hw⟩; have B5 := Lib.hid (B4.out.trans (hw.mono B2.out.size)); clear hw))
      go_ret2
      first | exact ⟨rfl, B5.out⟩ | exact ⟨rfl, B4.out⟩
end Go.Proofs.YtoefnmhmiphilaaGreatDoor.Tp

namespace Go.Proofs.YtoefnmhmiphilaaGreatDoor.Tp
open Go Go.RowKit Go.Maps Go.Proofs.YtoefnmhmiphilaaGreatDoorW.PrintWords
theorem nodes0_calls {W : World} {base b2 : Nat} {m : Mt} {f0 : Int} {f1 : ByteArray} {f2 f3 : Int} {sA : Option Addr} {sn sc : Nat} {d : Int} (h : Hold W base m) (h1 : m.nd = ⟨f0, f1, f2, f3⟩) (h2 : m.sl = ⟨sA, sn, sc⟩) (hb2 : b2 ≤ W.heap.size) {k : Nat} (hk : (flat m.tr).length = k) (hl : k ≤ 4294967296) :
    Calls Tryz.prog 27 #[.agg #[.int .i64 f0, .string f1, .int .i64 f2, .int .i64 f3, .slice sA sn sc, .int .i64 d], .slice none 0 0] W fun e W' => ∃ A' c, e = .returned (.slice A' k c) ∧ W'.ownsRow b2 32 4 (.slice A' k c) k (encs (flat m.tr)) ∧ Below W.heap.size W W' :=
  (nodes_calls m W base W.heap.size none 0 0 [] f0 f1 f2 f3 sA sn sc d h h1 h2 (own_nil _ _ _ _) (Nat.le_refl _) (by rw [hk]; omega)).mono fun e W' ⟨A', c', he, ho, hr⟩ => by
    rw [hk, Nat.zero_add] at he ho hr
    exact ⟨A', c', he, own_lower ho hb2, hr.bel (Nat.le_refl _) (fun i hi => by simp [Value.ownBlock] at hi)⟩
theorem apart7_calls (W : World) (A : Option Addr) (n cap : Nat) (o : List Nd) (hL : Lst W A n o) {t : Tr} (ha : apart o = .ok t) (h7 : t.nd.f0 = 7) :
    Calls Tryz.prog 25 #[.slice A n cap] W fun e W' => ∃ (ks : List Mt) (f1 : ByteArray) (f2 f3 : Int) (sA : Option Addr) (sn sc : Nat) (d : Int), e = .returned (.tuple #[.agg #[.int .i64 7, .string f1, .int .i64 f2, .int .i64 f3, .slice sA sn sc, .int .i64 d], .int .i64 0]) ∧ trs ks = t.kids ∧ sn = ks.length ∧ W'.ownsRow W.heap.size 48 6 (.slice sA sn sc) sn (encVs (ks.map Mt.tv)) ∧ (∀ m ∈ ks, Hold W' W.heap.size m) ∧ Below W.heap.size W W' :=
  (apart_ok_calls W A n cap o hL ha).mono fun e W' ⟨m, f0, f1, f2, f3, sA, sn, sc, d, he, hv, hb⟩ => by
    obtain ⟨nd, s, ks⟩ := m
    have h1 := hv.node
    have h2 := hv.sl
    have h3 := hv.tr
    simp only [Mt.nd] at h1
    simp only [Mt.sl] at h2
    subst h1; subst h2
    obtain ⟨g1, g2, g3⟩ := hv.hold.out_
    rw [← h3, tr_nd] at h7
    simp only [Mt.nd] at h7
    subst h7
    exact ⟨ks, f1, f2, f3, sA, sn, sc, d, he, by rw [← h3, tr_kids]; rfl, g1, g2, g3, hb⟩
theorem apartNot7_calls (W : World) (A : Option Addr) (n cap : Nat) (o : List Nd) (hL : Lst W A n o) {t : Tr} (ha : apart o = .ok t) (h7 : t.nd.f0 ≠ 7) :
    Calls Tryz.prog 25 #[.slice A n cap] W fun e W' => ∃ (f0 : Int) (f1 : ByteArray) (f2 f3 : Int) (sA : Option Addr) (sn sc : Nat) (d : Int), e = .returned (.tuple #[.agg #[.int .i64 f0, .string f1, .int .i64 f2, .int .i64 f3, .slice sA sn sc, .int .i64 d], .int .i64 0]) ∧ (f0 != 7) = true ∧ Below W.heap.size W W' :=
  (apart_ok_calls W A n cap o hL ha).mono fun e W' ⟨m, f0, f1, f2, f3, sA, sn, sc, d, he, hv, hb⟩ => by
    refine ⟨f0, f1, f2, f3, sA, sn, sc, d, he, ?_, hb⟩
    rw [← hv.tr, tr_nd, hv.node] at h7
    rw [bne_iff_ne]; exact h7
set_option maxHeartbeats 8000000 in
set_option maxRecDepth 100000 in
theorem pget_calls (W : World) (A : Option Addr) (n cap : Nat) (o : List Nd) (hL : Lst W A n o) (key : ByteArray) :
    Calls Tryz.prog 20 #[.slice A n cap, .string key] W (GRes o key.data.toList W) := by
  cases ha : apart o with
  | error x =>
    have CA := Lib.hid (apart_err_calls W A n cap o hL ha)
    have hx := apart_code ha
    have HN := Lib.hid (show getOf o key.data.toList = none by unfold getOf; rw [ha])
    clear ha hL
    go_enter Tryz.func20, Tryz.ntmps20
    go_wp2_with (first | (go_at_call 25; (with_reducible refine CA.out.mono ?_); rintro e1 W1 ⟨rfl, hb⟩; have B1 := Lib.hid hb; clear hb))
    go_ret2
    exact GRes.mk_none HN.out (B1.out.alloc B1.out.size _)
  | ok t =>
    obtain ⟨ha1, ha2, ha3, _, _⟩ := apart_ok.1 ha
    by_cases h7 : t.nd.f0 = 7
    · have CA := Lib.hid (apart7_calls W A n cap o hL ha h7)
      have hn : n ≤ 4294967296 := hL.few
      have HFL := Lib.hid (show (flat t).length ≤ 4294967296 by rw [ha2, hL.len]; exact hn)
      have HOK := Lib.hid ha3
      obtain ⟨K, hK⟩ : ∃ K, key.data.toList = K := ⟨_, rfl⟩
      have HG0 := Lib.hid (show getOf o K = (t.kids.find? (fun m => m.key == K)).bind (fun m => m.kids.head?) by unfold getOf; rw [ha]; show getT _ _ = _; unfold getT; exact if_pos h7)
      have HKK := Lib.hid hK
      have HKOK := Lib.hid (show ∀ u ∈ t.kids, okT u = true ∧ u.nd.f0 = 6 ∧ (flat u).length ≤ (flat t).length by
        intro u hu
        obtain ⟨nn, kids⟩ := t
        simp only [Tr.kids] at hu
        simp only [okT, Bool.and_eq_true, fits, kinds] at ha3
        refine ⟨okTs_mem ha3.2 hu, ?_, ?_⟩
        · have := List.all_eq_true.1 ha3.1.2.1 u hu
          rw [show nn.f0 = 7 from h7] at this
          simpa using this
        · rw [flat, List.length_append]
          obtain ⟨a, b, e⟩ := List.append_of_mem hu
          rw [e, flats_append, flats, List.length_append, List.length_append]; omega)
      have HTK := Lib.hid (show t.kids.length ≤ (flat t).length by obtain ⟨nn, kids⟩ := t; rw [flat, List.length_append]; have := length_flats kids; simp only [Tr.kids]; omega)
      rw [hK]
      clear ha hL ha1 ha2 ha3 h7 hK
      go_enter Tryz.func20, Tryz.ntmps20
      go_wp2_with (first | (go_at_call 25; (with_reducible refine CA.out.mono ?_); rintro e1 W1 ⟨ks, f1, f2, f3, sA, sn, sc, d, rfl, htr, hsn, hrow, hhold, hb⟩; have HTR := Lib.hid htr; have HSN := Lib.hid hsn; have HROW := Lib.hid hrow; have HHD := Lib.hid hhold; have B1 := Lib.hid hb; clear hb htr hsn hrow hhold))
      have bA := (Below.refl _ W1).alloc (Nat.le_refl _) (.cells #[.int .i64 7, .string f1, .int .i64 f2, .int .i64 f3, .slice sA sn sc, .int .i64 d] 48)
      have BA := Lib.hid bA
      have hsn2 : sn ≤ 4294967296 := by
        have h1 := HTK.out
        have h2 := congrArg List.length HTR.out
        rw [trs_length] at h2
        have := HSN.out
        have := HFL.out
        omega
      clear bA
      go_loopg [26] sn (fun g v26 W' => ∃ j : Nat, v26 = .int .i64 (j : Int) ∧ Hid (g = sn - j) ∧ Hid (j ≤ sn) ∧ Hid ((t.kids.take j).find? (fun m => m.key == K) = none) ∧ Hid (Below W1.heap.size W1 W'))
      case atStart => exact ⟨0, rfl, Lib.hid rfl, Lib.hid (Nat.zero_le _), Lib.hid (by simp), BA⟩
      case round =>
        obtain ⟨j, rfl, HG, HJ, HF, HB⟩ := hrel
        have hj0 := HJ.out
        have hsn := HSN.out
        by_cases hj : j < sn
        · have d2 : decide ((j : Int) < (sn : Int)) = true := by simp; omega
          have hjm : (j : Int) < (sn : Int) := by omega
          have hjk : j < ks.length := by omega
          have hjl : j < (ks.map Mt.tv).length := by rw [List.length_map]; exact hjk
          have hrow := own_bel HROW.out HB.out (Nat.le_refl _)
          obtain ⟨b', off', hbe, hvs⟩ := (own_Vv hrow).some (by omega)
          subst hbe
          obtain ⟨w0, w1, w2, w3, w4, w5⟩ := hvs.at_ j hjl
          obtain ⟨m, hm⟩ : ∃ m, ks[j]'hjk = m := ⟨_, rfl⟩
          have hmm : m ∈ ks := by rw [← hm]; exact List.getElem_mem _
          have e1 : (ks.map Mt.tv)[j]'hjl = m.tv := by rw [List.getElem_map, hm]
          rw [e1] at w0 w1 w2 w3 w4 w5
          have hjt : j < t.kids.length := by rw [← HTR.out, trs_length]; exact hjk
          have hmt : t.kids[j]'hjt = m.tr := by
            have h1 : (trs ks)[j]'(by rw [trs_length]; exact hjk) = m.tr := by simp only [trs_map, List.getElem_map, hm]
            have := HTR.out
            simp only [← this]; exact h1
          have htm : m.tr ∈ t.kids := by rw [← hmt]; exact List.getElem_mem _
          have hmh := (HHD.out m hmm).below HB.out
          obtain ⟨mok, m6, mfl⟩ := HKOK.out _ htm
          obtain ⟨⟨g0, g1, g2, g3⟩, ⟨tA, tn, tc⟩, mk⟩ := m
          obtain ⟨E, hE⟩ : ∃ E, deep (Mt.mk ⟨g0, g1, g2, g3⟩ ⟨tA, tn, tc⟩ mk).tr = E := ⟨_, rfl⟩
          simp only [Mt.tv, tr_nd, Mt.nd, Mt.sl, hE] at w0 w1 w2 w3 w4 w5
          have hkey : (Mt.mk ⟨g0, g1, g2, g3⟩ ⟨tA, tn, tc⟩ mk).tr.key = g1.data.toList := key_tr _
          cases hq : (g1.toList == key.toList) with
          | false =>
            have HNF := Lib.hid (show (t.kids.take (j + 1)).find? (fun m => m.key == K) = none from find_next hjt HF.out (by
              rw [hmt, hkey, ← HKK.out, ← ByteArray.toList_eq, ← ByteArray.toList_eq]; exact hq))
            clear hm e1 hvs hE hrow hsn hmt htm hmh mok m6 mfl hkey hjt
            go_wp2_with fail
            go_roundg (sn - (j + 1))
            case rel => exact ⟨j + 1, rfl, Lib.hid rfl, Lib.hid hj, HNF, Lib.hid (HB.out.alloc HB.out.size _)⟩
            case measure => have := HG.out; omega
          | true =>
            obtain ⟨c0, hc0⟩ := mem_one (ok_A mok) m6
            rw [tr_kids] at hc0
            simp only [Mt.kids] at hc0
            obtain ⟨c, hcm⟩ : ∃ c, mk = [c] := by
              have := congrArg List.length hc0
              rw [trs_length] at this
              match mk, this with
              | [c], _ => exact ⟨c, rfl⟩
            subst hcm
            have hcc : c.tr = c0 := by simpa [trs] using hc0
            obtain ⟨p1, p2, p3⟩ := hmh.out_
            simp only [List.length_singleton] at p1 p2
            subst p1
            have hch := p3 c (by simp)
            obtain ⟨b2, off2, hb2, hv2⟩ := (own_Vv p2).some (by simp)
            subst hb2
            obtain ⟨q0, q1, q2, q3, q4, q5⟩ := hv2.at_ 0 (by simp)
            simp only [List.map_cons, List.map_nil, List.getElem_cons_zero, Nat.zero_mul, Nat.add_zero] at q0 q1 q2 q3 q4 q5
            obtain ⟨⟨c1, c2, c3, c4⟩, hcn⟩ : ∃ x, c.nd = x := ⟨_, rfl⟩
            obtain ⟨⟨uA, un, uc⟩, hcs⟩ : ∃ x, c.sl = x := ⟨_, rfl⟩
            obtain ⟨E2, hE2⟩ : ∃ E2, deep c.tr = E2 := ⟨_, rfl⟩
            simp only [Mt.tv, tr_nd, hcn, hcs, hE2] at q0 q1 q2 q3 q4 q5
            have bO := (Below.refl _ wr).alloc (Nat.le_refl _) (.cells #[.int .i64 g0, .string g1, .int .i64 g2, .int .i64 g3, .slice (some ⟨b2, off2, none⟩) 1 tc, .int .i64 (E : Int)] 48)
            have r0 := cell_keep q0 bO (Nat.le_refl _)
            have r1 := cell_keep q1 bO (Nat.le_refl _)
            have r2 := cell_keep q2 bO (Nat.le_refl _)
            have r3 := cell_keep q3 bO (Nat.le_refl _)
            have r4 := cell_keep q4 bO (Nat.le_refl _)
            have r5 := cell_keep q5 bO (Nat.le_refl _)
            clear bO
            have HSOME := Lib.hid (show getOf o K = some c.tr by
              rw [HG0.out, find_at hjt HF.out (by rw [hmt, hkey, ← HKK.out, ← ByteArray.toList_eq, ← ByteArray.toList_eq]; exact hq), Option.bind_some, hmt, tr_kids]
              rfl)
            have hcl : (flat c.tr).length ≤ 4294967296 := by
              have h1 : (flat (Mt.mk ⟨g0, g1, g2, g3⟩ ⟨some ⟨b2, off2, none⟩, 1, tc⟩ [c]).tr).length = (flat c.tr).length + 1 := by rw [Mt.tr, flat]; simp [trs, flats]
              have := HFL.out
              omega
            have HW0 := Lib.hid (Nat.le_trans B1.out.size HB.out.size)
            have HCN := Lib.hid (fun V (hb : Below wr.heap.size wr V) => nodes0_calls (W := V) (base := W.heap.size) (b2 := W.heap.size) (m := c) (f0 := c1) (f1 := c2) (f2 := c3) (f3 := c4) (sA := uA) (sn := un) (sc := uc) (d := (E2 : Int)) (hch.below hb) hcn hcs (by have := hb.size; have := HW0.out; omega) rfl hcl)
            obtain ⟨L, hL⟩ : ∃ L, (flat c.tr).length = L := ⟨_, rfl⟩
            rw [hL] at HCN
            have HL2 := Lib.hid hL
            clear hm e1 hvs hE hrow hsn hmt htm hmh mok m6 mfl hkey hjt hc0 hcc p2 p3 hch hv2 hcn hcs hE2 hcl hL
            go_wp2_with (first | (go_at_call 27; (with_reducible refine (HCN.out _ ((Below.refl _ wr).alloc (Nat.le_refl _) _)).mono ?_); rintro e1 W5 ⟨A5, c5, rfl, ho, hb⟩; have O5 := Lib.hid ho; have B5 := Lib.hid (((B1.out.trans (HB.out.mono B1.out.size)).alloc HW0.out _).trans (hb.mono (by rw [World.size_alloc]; have := HW0.out; omega))); clear ho hb))
            go_ret2
            exact GRes.mk_some HSOME.out HL2.out O5.out B5.out
        · have d2 : decide ((j : Int) < (sn : Int)) = false := by simp; omega
          have hF := HF.out
          rw [List.take_of_length_le (by rw [← HTR.out, trs_length]; omega)] at hF
          have HNO := Lib.hid (show getOf o K = none by rw [HG0.out, hF]; rfl)
          clear hF hsn
          go_wp2_with fail
          go_ret2
          exact GRes.mk_none HNO.out (B1.out.trans (HB.out.mono B1.out.size))
    · have CA := Lib.hid (apartNot7_calls W A n cap o hL ha h7)
      have HN := Lib.hid (show getOf o key.data.toList = none by unfold getOf; rw [ha]; show getT _ _ = _; unfold getT; exact if_neg h7)
      clear ha hL ha1 ha2 ha3 h7
      go_enter Tryz.func20, Tryz.ntmps20
      go_wp2_with (first | (go_at_call 25; (with_reducible refine CA.out.mono ?_); rintro e1 W1 ⟨f0, f1, f2, f3, sA, sn, sc, d, rfl, hne, hb⟩; have B1 := Lib.hid hb; clear hb))
      go_ret2
      exact GRes.mk_none HN.out (B1.out.alloc B1.out.size _)
end Go.Proofs.YtoefnmhmiphilaaGreatDoor.Tp
