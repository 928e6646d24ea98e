/- The names of layer 3, over lists of bytes: the reference's Split; the document's rows. -/
import Derived.Test.YtkcfigfhbeohfaaNmD
namespace Go.Proofs.Ytkcfigfhbeohfaa.Nm
open Go Go.RowKit Go.Proofs.YtkcfigfhbeohfaaW.PrintWords Go.Proofs.Ytkcfigfhbeohfaa.Txt Go.Proofs.Ytkcfigfhbeohfaa.G Go.Proofs.Ytkcfigfhbeohfaa.Parts

theorem wrap_small {x : Int} (h0 : 0 ≤ x) (h1 : x ≤ 4294967296) : wrap64 x = x := by unfold wrap64; omega

theorem rfirst_deep (k : Nat) (s : ByteArray) (r : List UInt8) (j : Nat) (hs : s.size ≤ 2147483647) (hk : s.size < k) (hd : dl s = 64 :: r) (hj : j < s.size) (hj1 : 1 ≤ j)
    (hsplit : (64 :: r : List UInt8) = (64 :: r).take j ++ 47 :: (64 :: r).drop (j + 1)) (hc : cutL 47 (dl s) = ((64 :: r).take j, (64 :: r).drop (j + 1), true)) :
    hoggetref03_first.j0 (k + 1) s j true = some (mk (nameL (dl s)).1, mk (nameL (dl s)).2.1) := by
  have hl : (dl s).length = s.size := len s
  have hdl : dl s = s.data.toList := rfl
  have e0 : (⟨#[]⟩ : ByteArray) = mk [] := rfl
  have hw := wrap_small (x := (j : Int) + 1) (by omega) (by omega)
  rw [hd, List.length_cons] at hl
  have ext2 : s.extract (j + 1) s.size = mk ((64 :: r).drop (j + 1)) := ext (by rw [extract_list, ← hdl, hd, List.take_of_length_le (by simp; omega)]; rfl)
  have hp : [64].isPrefixOf ((64 :: r).take j) = true := by
    obtain ⟨j', rfl⟩ : ∃ m, j = m + 1 := ⟨j - 1, by omega⟩
    simp [List.isPrefixOf]
  have hn : nameL (dl s) = ((64 :: r).take j ++ 47 :: (cutL 47 ((64 :: r).drop (j + 1))).1, (cutL 47 ((64 :: r).drop (j + 1))).2) := by
    unfold nameL
    rw [hc, hp]
    rfl
  rw [hn]
  simp only [hoggetref03_first.j0, if_true]
  have hll : ((64 :: r).drop (j + 1)).length = s.size - (j + 1) := by rw [List.length_drop, List.length_cons, hl]
  rw [hw, if_pos (by omega), if_pos (by omega), show ((j : Int) + 1).toNat = j + 1 by omega, ext2, rslash_eq k _ (by rw [mk_size, hll]; omega) (by rw [mk_size, hll]; omega), mk_list]
  simp only [Option.bind_some]
  have hlt2 := Cut.indexByte_lt ((64 :: r).drop (j + 1)) 47
  have hge2 := Lib.indexByte_ge ((64 :: r).drop (j + 1)) 47
  have hc2 := cutL_index 47 ((64 :: r).drop (j + 1))
  rw [hll] at hlt2
  by_cases h2 : Lib.indexByte ((64 :: r).drop (j + 1)) 47 < 0
  · have h3 : ¬ 0 ≤ Lib.indexByte ((64 :: r).drop (j + 1)) 47 := by omega
    rw [hc2.trans (if_neg h3), if_pos h2, e0]
    simp only
    rw [← hsplit, ← hd]
    have es : s = mk (dl s) := eq_mk s
    rw [← es]
  · have h3 : 0 ≤ Lib.indexByte ((64 :: r).drop (j + 1)) 47 := by omega
    rw [hc2.trans (if_pos h3), if_neg h2]
    obtain ⟨q, hq⟩ := Int.eq_ofNat_of_zero_le h3
    rw [hq] at hlt2 ⊢
    clear hc2 h2 h3 hge2 hq hn hp hc hw
    have hq2 : j + 1 + q + 1 ≤ s.size := by omega
    have hw2 := wrap_small (x := (j : Int) + 1 + (q : Int)) (by omega) (by omega)
    have hw3 := wrap_small (x := (j : Int) + 1 + (q : Int) + 1) (by omega) (by omega)
    have n1 : ¬ (j : Int) + 1 + (q : Int) < 0 := by omega
    have n2 : 0 ≤ (j : Int) + 1 + (q : Int) := by omega
    have n3 : (j : Int) + 1 + (q : Int) ≤ (s.size : Int) := by omega
    have n4 : 0 ≤ (j : Int) + 1 + (q : Int) + 1 := by omega
    have n5 : (j : Int) + 1 + (q : Int) + 1 ≤ (s.size : Int) := by omega
    have t1 : ((j : Int) + 1 + q).toNat = j + 1 + q := by omega
    have t2 : ((j : Int) + 1 + q + 1).toNat = j + 1 + q + 1 := by omega
    rw [hw2, hw3, if_neg n1, if_pos n2, if_pos n3, if_pos n4, if_pos n5, t1, t2, Int.toNat_natCast]
    have f1 : s.extract 0 (j + 1 + q) = mk ((64 :: r).take j ++ 47 :: ((64 :: r).drop (j + 1)).take q) := ext (by
      rw [extract_list, ← hdl, hd, List.drop_zero, mk_list]
      have hlj : ((64 :: r).take j).length = j := by rw [List.length_take, List.length_cons]; omega
      have : (64 :: r : List UInt8).take (j + 1 + q) = ((64 :: r).take j ++ 47 :: (64 :: r).drop (j + 1)).take (j + 1 + q) := by rw [← hsplit]
      rw [this, List.take_append, hlj, List.take_of_length_le (by omega), show j + 1 + q - j = q + 1 by omega]; rfl)
    have f2 : s.extract (j + 1 + q + 1) s.size = mk (((64 :: r).drop (j + 1)).drop (q + 1)) := ext (by
      rw [extract_list, ← hdl, hd, List.take_of_length_le (by simp; omega), mk_list, List.drop_drop]; congr 1)
    rw [f1, f2]

theorem rfirst_eq (k : Nat) (s : ByteArray) (hs : s.size ≤ 2147483647) (hk : s.size + 2 < k) : hoggetref03_first.f k s = some (mk (nameL (dl s)).1, mk (nameL (dl s)).2.1) := by
  have hl : (dl s).length = s.size := len s
  unfold hoggetref03_first.f
  obtain ⟨k, rfl⟩ : ∃ m, k = m + 1 := ⟨k - 1, by omega⟩
  rw [rslash_eq _ s (by omega) (by omega)]
  simp only [Option.bind_some]
  have hlt := Cut.indexByte_lt s.data.toList 47
  have hge := Lib.indexByte_ge s.data.toList 47
  have hc := cutL_index 47 (dl s)
  have hdl : dl s = s.data.toList := rfl
  have es : s = mk (dl s) := eq_mk s
  have e0 : (⟨#[]⟩ : ByteArray) = mk [] := rfl
  rw [← hdl] at hlt hge ⊢
  rw [hl] at hlt
  by_cases h : 0 ≤ Lib.indexByte (dl s) 47
  · have hc' := hc.trans (if_pos h)
    clear hc
    revert hc'
    obtain ⟨j, hj⟩ := Int.eq_ofNat_of_zero_le h
    rw [hj] at hlt ⊢
    rw [Int.toNat_natCast]
    intro hc
    have h0 := At.zero s
    rw [← hdl] at h0
    rw [if_pos (by omega), if_pos (by omega)]
    cases hd : dl s with
    | nil => rw [hd] at hl; simp at hl; omega
    | cons x r =>
      rw [hd] at h0 hc hj
      rw [h0.byte]
      have he := @u8_eq x 64
      have h64 : (((64 : UInt8).toNat : Nat) : Int) = 64 := rfl
      rw [h64] at he
      have hsplit : (x :: r : List UInt8) = (x :: r).take j ++ 47 :: (x :: r).drop (j + 1) := by
        have := (cutL_back 47 (x :: r)).1
        rw [hc] at this
        exact this rfl
      by_cases hx : x = 64
      · have hj1 : 1 ≤ j := by
          apply Classical.byContradiction
          intro hn
          have : j = 0 := by omega
          subst this
          rw [hx] at hsplit
          simp at hsplit
        subst hx
        have hb : (((64 : UInt8).toNat : Int) == 64) = true := rfl
        rw [hb, ← hd]
        exact rfirst_deep k s r j hs (by omega) hd (by omega) hj1 hsplit (by rw [hd]; exact hc)
      · have hb : ((x.toNat : Int) == 64) = false := beq_eq_false_iff_ne.2 (fun e => hx (he.2 e))
        have hp : ([64].isPrefixOf ((x :: r).take j) && true) = false := by
          cases j with
          | zero => rfl
          | succ j => simp [List.isPrefixOf]; exact fun e => hx e.symm
        have hn : nameL (x :: r) = ((x :: r).take j, (x :: r).drop (j + 1), true) := by
          unfold nameL
          rw [hc]
          simp only [hp]
          rfl
        rw [hb, hn]
        rw [hd, List.length_cons] at hl
        have ext1 : s.extract 0 j = mk ((x :: r).take j) := ext (by rw [extract_list, ← hdl, hd]; rfl)
        have ext2 : s.extract (j + 1) s.size = mk ((x :: r).drop (j + 1)) := ext (by rw [extract_list, ← hdl, hd, List.take_of_length_le (by simp; omega)]; rfl)
        have hw := wrap_small (x := (j : Int) + 1) (by omega) (by omega)
        have n1 : ¬ (j : Int) < 0 := by omega
        have n2 : 0 ≤ (j : Int) := by omega
        have n3 : (j : Int) ≤ s.size := by omega
        have n4 : 0 ≤ (j : Int) + 1 := by omega
        have n5 : (j : Int) + 1 ≤ s.size := by omega
        simp only [hoggetref03_first.j0, Bool.false_eq_true, if_false]
        rw [hw, if_neg n1, if_pos n2, if_pos n3, if_pos n4, if_pos n5, show ((j : Int) + 1).toNat = j + 1 by omega, Int.toNat_natCast, ext1, ext2]
  · have hcn := hc.trans (if_neg h)
    have hn : nameL (dl s) = (dl s, [], false) := by
      unfold nameL
      rw [hcn]
      simp
    rw [hn, if_neg (by omega)]
    simp only [hoggetref03_first.j0, Bool.false_eq_true, if_false]
    rw [if_pos (by omega), e0, ← es]

/-- The reference's loop ends with what was written, or says that there is none. -/
theorem rsplit_total : ∀ (n k : Nat) (s : ByteArray) (out : List ByteArray) (rest : ByteArray), rest.size ≤ n → rest.size ≤ 2147483647 → n + 2147483647 + 100 ≤ k → out.length + n ≤ 2147483647 →
    hoggetref03_Split.l0 k s out rest = some ([], false) ∨ ∃ o, hoggetref03_Split.l0 k s out rest = some (o, true) ∧ allGood o = true ∧ o.length ≤ 12 ∧ pathB (o.map dl) = dl s := by
  intro n
  induction n with
  | zero =>
    intro k s out rest h1 h2 h3 h4
    obtain ⟨k, rfl⟩ : ∃ m, k = m + 1 := ⟨k - 1, by omega⟩
    have hr : rest.data.toList = [] := List.length_eq_zero_iff.1 (by rw [len]; omega)
    simp only [hoggetref03_Split.l0]
    rw [toList_eq, if_pos hr, rpath_eq k out (by omega)]
    simp only [Option.bind_some, pathR]
    split
    · exact .inl rfl
    · split
      · rw [if_pos rfl, mk_toList, toList_eq]
        split
        · rename_i hg he; exact .inr ⟨out, rfl, hg, by omega, he⟩
        · exact .inl rfl
      · exact .inl rfl
  | succ n ih =>
    intro k s out rest h1 h2 h3 h4
    by_cases hz : rest.size ≤ n
    · exact ih k s out rest hz h2 (by omega) (by omega)
    obtain ⟨k, rfl⟩ : ∃ m, k = m + 1 := ⟨k - 1, by omega⟩
    have hne : ¬ rest.data.toList = [] := fun e => by have := len rest; rw [e] at this; simp at this; omega
    simp only [hoggetref03_Split.l0]
    rw [toList_eq, if_neg hne]
    by_cases h13 : (rest.size : Int) < 13
    · rw [if_pos h13]; exact .inl rfl
    · rw [if_neg h13, if_pos (by omega), if_pos (by omega)]
      split
      · have hx : (rest.extract 13 rest.size).size = rest.size - 13 := by rw [ByteArray.size_extract]; omega
        rw [rfirst_eq k _ (by omega) (by omega)]
        simp only [Option.bind_some]
        rw [if_pos (by omega)]
        refine ih k s _ _ ?_ ?_ (by omega) (by simp; omega)
        all_goals
          rw [mk_size]
          have hb : (nameL (dl (rest.extract 13 rest.size))).2.1.length ≤ (dl (rest.extract 13 rest.size)).length := by
            generalize dl (rest.extract 13 rest.size) = b
            have c1 := cutL_len 47 b
            have c2 := cutL_len 47 (cutL 47 b).2.1
            unfold nameL
            split
            · simp only; omega
            · omega
          have : (dl (rest.extract 13 rest.size)).length = rest.size - 13 := by unfold dl; rw [len, hx]
          omega
      · exact .inl rfl

/-- What was written the reference reads. -/
theorem rsplit_path : ∀ (l : List ByteArray) (k : Nat) (s : ByteArray) (out : List ByteArray), (∀ x ∈ l, goodL (dl x) = true) → allGood (out ++ l) = true → out.length + l.length ≤ 12 → pathB ((out ++ l).map dl) = dl s →
    (pathB (l.map dl)).length + 2000 ≤ k → (pathB (l.map dl)).length ≤ 2147483647 → hoggetref03_Split.l0 k s out (mk (pathB (l.map dl))) = some (out ++ l, true)
  | [], k, s, out, hg, ha, hn, hp, hk, hb => by
    obtain ⟨k, rfl⟩ : ∃ m, k = m + 1 := ⟨k - 1, by omega⟩
    simp only [List.append_nil] at ha hp ⊢
    simp only [List.length_nil, Nat.add_zero] at hn
    simp only [hoggetref03_Split.l0]
    have e : (mk (pathB (([] : List ByteArray).map dl))).toList = [] := by rw [mk_toList]; rfl
    rw [if_pos e, rpath_eq k out (by omega)]
    simp only [Option.bind_some, pathR]
    have hnn : ¬ 12 < out.length := by omega
    simp only [if_neg hnn, if_pos ha, if_true]
    rw [mk_toList, toList_eq]
    exact if_pos hp
  | x :: l, k, s, out, hg, ha, hn, hp, hk, hb => by
    obtain ⟨k, rfl⟩ : ∃ m, k = m + 1 := ⟨k - 1, by omega⟩
    have hx := hg x List.mem_cons_self
    obtain ⟨t, ht, hname, htl⟩ : ∃ t, pathB ((x :: l).map dl) = fr ++ t ∧ nameL t = (dl x, pathB (l.map dl), !l.isEmpty) ∧ (pathB (l.map dl)).length + 13 ≤ (pathB ((x :: l).map dl)).length := by
      cases l with
      | nil => exact ⟨dl x, pathB_one _, name_last hx, by rw [List.map_cons, List.map_nil, pathB_one]; simp [pathB, Lib.join, fr]⟩
      | cons y l => exact ⟨_, pathB_cons _ _ _, name_more hx _, by simp only [List.map_cons]; rw [pathB_cons]; simp [fr]; omega⟩
    have hfr : fr.length = 13 := rfl
    rw [ht] at htl hk hb ⊢
    rw [List.length_append, hfr] at hk hb htl
    have et : (mk (fr ++ t)).extract 13 (mk (fr ++ t)).size = mk t := ext (by
      rw [extract_list, mk_size, mk_list, mk_list, List.take_of_length_le (Nat.le_refl _), List.drop_left' hfr])
    have e13 : ((mk (fr ++ t)).extract 0 13).toList = fr := by
      rw [toList_eq, extract_list, mk_list, List.drop_zero, List.take_left' hfr]
    simp only [hoggetref03_Split.l0]
    have hfrl : ([110, 111, 100, 101, 95, 109, 111, 100, 117, 108, 101, 115, 47] : List UInt8) = fr := rfl
    rw [hfrl, mk_toList, if_neg (by simp [fr]), if_neg (by rw [mk_size, List.length_append, hfr]; omega), if_pos (by omega), if_pos (by rw [mk_size, List.length_append, hfr]; omega), if_pos e13, et, rfirst_eq k _ (by rw [mk_size]; omega) (by rw [mk_size]; omega)]
    simp only [Option.bind_some, dl_mk]
    rw [hname]
    have ex : mk (dl x) = x := (eq_mk x).symm
    simp only
    rw [if_pos (by simp at hn; omega), ex, rsplit_path l k s (out ++ [x]) (fun y hy => hg y (List.mem_cons_of_mem _ hy)) (by simpa using ha) (by simp at hn ⊢; omega) (by simpa using hp) (by omega) (by omega)]
    simp

theorem rsplit_eq (k : Nat) (s : ByteArray) (hs : s.size ≤ 2147483) (hk : 4294967295 ≤ k) : hoggetref03_Split.f k s = some (splitR s) := by
  unfold hoggetref03_Split.f
  by_cases h : allGood (partsL s) = true ∧ (partsL s).length ≤ 12
  · have hr : splitR s = (partsL s, true) := if_pos h
    obtain ⟨h1, h2, h3, _⟩ := splitR_path hr
    have e : s = mk (pathB ((partsL s).map dl)) := by rw [h3]; exact eq_mk s
    have hz : (pathB ((partsL s).map dl)).length = s.size := by rw [h3]; exact len s
    rw [hr]
    have := rsplit_path (partsL s) k s [] (fun x hx => by unfold allGood at h1; rw [List.all_eq_true] at h1; exact h1 x hx) (by simpa using h1) (by simpa using h2) (by simpa using h3) (by omega) (by omega)
    rw [← e] at this
    simpa using this
  · have hr : splitR s = ([], false) := if_neg h
    rw [hr]
    rcases rsplit_total s.size k s [] s (Nat.le_refl _) (by omega) (by omega) (by simp; omega) with h1 | ⟨o, h1, h2, h3, h4⟩
    · exact h1
    · have := splitR_of h2 h3 h4
      rw [hr] at this
      simp at this

theorem calls_eq (k : Nat) (hk : 100 ≤ k) : hoggetlaw03_calls.f k = some true := by
  unfold hoggetlaw03_calls.f
  have a1 : splitR (⟨#[110, 111, 100, 101, 95, 109, 111, 100, 117, 108, 101, 115, 47, 97, 47, 110, 111, 100, 101, 95, 109, 111, 100, 117, 108, 101, 115, 47, 64, 120, 47, 121]⟩ : ByteArray) = ([(⟨#[97]⟩ : ByteArray), (⟨#[64, 120, 47, 121]⟩ : ByteArray)], true) := by decide +kernel
  have a2 : splitR (⟨#[110, 111, 100, 101, 95, 109, 111, 100, 117, 108, 101, 115, 47, 97, 47]⟩ : ByteArray) = ([], false) := by decide +kernel
  have a3 : splitR (⟨#[97]⟩ : ByteArray) = ([], false) := by decide +kernel
  have a4 : pathR [(⟨#[97]⟩ : ByteArray), (⟨#[64, 120, 47, 121]⟩ : ByteArray)] = (mk [110, 111, 100, 101, 95, 109, 111, 100, 117, 108, 101, 115, 47, 97, 47, 110, 111, 100, 101, 95, 109, 111, 100, 117, 108, 101, 115, 47, 64, 120, 47, 121], 0) := by decide +kernel
  have a5 : pathR [(⟨#[65]⟩ : ByteArray)] = (mk [], 30) := by decide +kernel
  have b1 : goodL (⟨#[97, 46, 98, 45, 99]⟩ : ByteArray).data.toList = true := by decide +kernel
  have b2 : goodL (⟨#[64, 120, 47, 121]⟩ : ByteArray).data.toList = true := by decide +kernel
  have b3 : goodL (⟨#[65]⟩ : ByteArray).data.toList = false := by decide +kernel
  have b4 : goodL (⟨#[64, 120]⟩ : ByteArray).data.toList = false := by decide +kernel
  have b5 : goodL (⟨#[46, 97]⟩ : ByteArray).data.toList = false := by decide +kernel
  rw [split_eq k _ (by decide) (by omega), split_eq k _ (by decide) (by omega), split_eq k _ (by decide) (by omega), path_eq k _ (by omega), path_eq k _ (by omega), good_eq k _ (by omega), good_eq k _ (by omega), good_eq k _ (by omega), good_eq k _ (by omega), good_eq k _ (by omega)]
  simp only [a1, a2, a3, a4, a5, b1, b2, b3, b4, b5, Option.bind_some, if_true, if_false, Bool.false_eq_true]
  rw [same_eq k _ _ (by simp) (by simp; omega)]
  simp

end Go.Proofs.Ytkcfigfhbeohfaa.Nm
