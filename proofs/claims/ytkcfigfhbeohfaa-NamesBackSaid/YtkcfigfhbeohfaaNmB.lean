/- The names of layer 3, over lists of bytes: Good, Path, Same and Big. -/
import Derived.Test.YtkcfigfhbeohfaaNmA
namespace Go.Proofs.Ytkcfigfhbeohfaa.Nm
open Go Go.RowKit Go.Proofs.YtkcfigfhbeohfaaW.PrintWords Go.Proofs.Ytkcfigfhbeohfaa.Txt Go.Proofs.Ytkcfigfhbeohfaa.G

/-- A list cut at the first `c`. -/
def cutL (c : UInt8) : List UInt8 → List UInt8 × List UInt8 × Bool
  | [] => ([], [], false)
  | x :: r => if x = c then ([], r, true) else (x :: (cutL c r).1, (cutL c r).2.1, (cutL c r).2.2)

theorem cutL_index (c : UInt8) : ∀ l : List UInt8, cutL c l = if 0 ≤ Lib.indexByte l c then (l.take (Lib.indexByte l c).toNat, l.drop ((Lib.indexByte l c).toNat + 1), true) else (l, [], false)
  | [] => rfl
  | x :: r => by
    have h := cutL_index c r
    have hge := Lib.indexByte_ge r c
    unfold cutL Lib.indexByte
    by_cases hx : x = c
    · simp [hx]
    · rw [if_neg hx, h]
      by_cases h1 : Lib.indexByte r c = -1
      · simp [hx, h1]
      · have h2 : 0 ≤ Lib.indexByte r c := by omega
        have h3 : (Lib.indexByte r c + 1).toNat = (Lib.indexByte r c).toNat + 1 := by omega
        have h4 : 0 ≤ Lib.indexByte r c + 1 := by omega
        simp [hx, h1, h2, h3, h4]

theorem cutL_len (c : UInt8) : ∀ l : List UInt8, (cutL c l).1.length ≤ l.length ∧ (cutL c l).2.1.length ≤ l.length
  | [] => ⟨Nat.le_refl _, Nat.le_refl _⟩
  | x :: r => by
    have h := cutL_len c r
    unfold cutL
    split
    · simp
    · simp; omega

theorem cutB_eq (s : ByteArray) (c : UInt8) : Cut.cutB s c = (mk (cutL c s.data.toList).1, mk (cutL c s.data.toList).2.1, (cutL c s.data.toList).2.2) := by
  have hlt := Cut.indexByte_lt s.data.toList c
  rw [len] at hlt
  rw [cutL_index]
  unfold Cut.cutB
  split
  · have e1 : s.extract 0 (Lib.indexByte s.data.toList c).toNat = mk (s.data.toList.take (Lib.indexByte s.data.toList c).toNat) := ext (by rw [extract_list]; rfl)
    have e2 : s.extract ((Lib.indexByte s.data.toList c).toNat + 1) s.size = mk (s.data.toList.drop ((Lib.indexByte s.data.toList c).toNat + 1)) := ext (by
      rw [extract_list, List.take_of_length_le (by rw [len]; omega)]; rfl)
    rw [e1, e2]
  · exact congrArg (fun t => (t, _)) (eq_mk s)

def nm : List UInt8 := [110, 111, 100, 101, 95, 109, 111, 100, 117, 108, 101, 115]
/-- Is a text a name? -/
def goodL (l : List UInt8) : Bool :=
  if 40 < l.length then false else if l = nm then false else
  match l with
  | [] => false
  | x :: r => if x = 64 then (if (cutL 47 r).2.2 = true then (if plainL (cutL 47 r).1 = true then plainL (cutL 47 r).2.1 else false) else false) else plainL (x :: r)

theorem cutPrefix_eq (s p : ByteArray) : strings_CutPrefix.f s p = some (if p.data.toList.isPrefixOf s.data.toList = true then (mk (s.data.toList.drop p.size), true) else (s, false)) := by
  unfold strings_CutPrefix.f stringslite_CutPrefix.f stringslite_HasPrefix.f
  have hp := len p
  have hs := len s
  by_cases h : p.size ≤ s.size
  · have h1 : (s.size : Int) ≥ (p.size : Int) := by omega
    have h2 : (0 : Int) ≤ (p.size : Int) := by omega
    have h3 : (p.size : Int) ≤ (s.size : Int) := by omega
    have hx : ((s.extract 0 ((p.size : Int) : Int).toNat).toList == p.toList) = p.data.toList.isPrefixOf s.data.toList := by
      rw [toList_eq, toList_eq, extract_list, List.drop_zero, Int.toNat_natCast, Bool.eq_iff_iff, beq_iff_eq, List.isPrefixOf_iff_prefix, List.prefix_iff_eq_take, hp]
      exact eq_comm
    have hd : s.extract ((p.size : Int) : Int).toNat s.size = mk (s.data.toList.drop p.size) := ext (by
      rw [extract_list, Int.toNat_natCast, List.take_of_length_le (by omega)]; rfl)
    simp only [if_pos h1, if_pos h2, Option.bind_some, hx, hd]
    cases p.data.toList.isPrefixOf s.data.toList <;> simp
  · have h1 : ¬ (s.size : Int) ≥ (p.size : Int) := by omega
    have hx : p.data.toList.isPrefixOf s.data.toList = false := by
      rw [Bool.eq_false_iff]
      intro hp'
      have := (List.isPrefixOf_iff_prefix.1 hp').length_le
      omega
    simp only [if_neg h1, Option.bind_some, hx]
    simp

theorem cutAt (s : ByteArray) : strings_CutPrefix.f s (⟨#[64]⟩ : ByteArray) = some (if [64].isPrefixOf s.data.toList = true then (mk (s.data.toList.drop 1), true) else (s, false)) := cutPrefix_eq s ⟨#[64]⟩

theorem good_eq (k : Nat) (s : ByteArray) (hk : 50 ≤ k) : names_Good.f k s = some (goodL s.data.toList) := by
  unfold names_Good.f goodL
  have hl := len s
  obtain ⟨k, rfl⟩ : ∃ m, k = m + 1 := ⟨k - 1, by omega⟩
  by_cases h : 40 < s.data.toList.length
  · rw [if_pos (by omega), if_pos h]; rfl
  · have hl0 : s.size ≤ 40 := by omega
    rw [if_neg (by omega), if_neg h]
    have hn : ([110, 111, 100, 101, 95, 109, 111, 100, 117, 108, 101, 115] : List UInt8) = nm := rfl
    rw [toList_eq, hn]
    by_cases h1 : s.data.toList = nm
    · rw [if_pos h1, h1]; rfl
    · rw [if_neg h1, beq_eq_false_iff_ne.2 h1]
      simp only [names_Good.j0, Bool.false_eq_true, if_false, cutAt, Option.bind_some]
      cases hd : s.data.toList with
      | nil =>
        rw [hd] at hl
        simp only [List.length_nil] at hl
        simp only [List.isPrefixOf, Bool.false_eq_true, if_false]
        rw [plain_eq k s (by omega) (by omega), hd]; rfl
      | cons x r =>
        rw [hd] at hl
        simp only [List.length_cons] at hl
        by_cases hx : x = 64
        · subst hx
          simp only [List.isPrefixOf, beq_self_eq_true, Bool.true_and, if_true, List.drop_succ_cons, List.drop_zero]
          unfold strings_Cut.f
          rw [if_pos (by rfl), if_pos (by rw [mk_size]; omega)]
          have e47 : (⟨#[47]⟩ : ByteArray).data.getD 0 0 = 47 := rfl
          rw [e47]
          simp only [Option.bind_some, cutB_eq, mk_list]
          cases hm : (cutL 47 r).2.2
          · simp
          · simp only [if_true]
            have hsz : (cutL 47 r).1.length ≤ 40 ∧ (cutL 47 r).2.1.length ≤ 40 := by have := cutL_len 47 r; omega
            rw [plain_eq k _ (by rw [mk_size]; omega) (by rw [mk_size]; omega), plain_eq k _ (by rw [mk_size]; omega) (by rw [mk_size]; omega)]
            simp only [Option.bind_some, mk_list]
            cases plainL (cutL 47 r).1 <;> simp
        · have : ([64] : List UInt8).isPrefixOf (x :: r) = false := by simp [List.isPrefixOf]; exact fun h => hx h.symm
          rw [this]
          simp only [Bool.false_eq_true, if_false, if_neg hx]
          rw [plain_eq k s (by omega) (by omega), hd]; rfl

theorem rslash_loop : ∀ (r : List UInt8) (k : Nat) (s : ByteArray) (i : Int), At s i r → s.size ≤ 4611686018427387904 → r.length < k →
    hoggetref03_slash.l0 k s i = some (if Lib.indexByte r 47 = -1 then -1 else i + Lib.indexByte r 47)
  | [], k, s, i, h, hs, hk => by
    obtain ⟨k, rfl⟩ : ∃ m, k = m + 1 := ⟨k - 1, by simp at hk; omega⟩
    simp only [hoggetref03_slash.l0]
    rw [if_neg h.not_lt]; rfl
  | c :: r, k, s, i, h, hs, hk => by
    obtain ⟨k, rfl⟩ : ∃ m, k = m + 1 := ⟨k - 1, by simp at hk; omega⟩
    simp only [hoggetref03_slash.l0]
    rw [if_pos h.lt, if_pos h.ge, h.byte, h.wrap hs]
    have he := @u8_eq c 47
    have hge := Lib.indexByte_ge r 47
    have h47 : (((47 : UInt8).toNat : Nat) : Int) = 47 := rfl
    rw [h47] at he
    unfold Lib.indexByte
    by_cases hc : c = 47
    · rw [if_pos (he.1 hc)]; simp [hc]
    · rw [if_neg (fun e => hc (he.2 e)), rslash_loop r k s (i + 1) h.next hs (by simp at hk; omega)]
      by_cases h1 : Lib.indexByte r 47 = -1
      · simp [hc, h1]
      · have h2 : ¬ (Lib.indexByte r 47 + 1 = -1) := by omega
        simp [hc, h1, h2]; omega

theorem rslash_eq (k : Nat) (s : ByteArray) (hs : s.size ≤ 4611686018427387904) (hk : s.size < k) : hoggetref03_slash.f k s = some (Lib.indexByte s.data.toList 47) := by
  unfold hoggetref03_slash.f
  rw [rslash_loop _ k s 0 (At.zero s) hs (by rw [len]; exact hk)]
  split
  · rename_i h; rw [h]
  · simp

theorem rgood_eq (k : Nat) (s : ByteArray) (hk : 50 ≤ k) : hoggetref03_Good.f k s = some (goodL s.data.toList) := by
  unfold hoggetref03_Good.f goodL
  have hl := len s
  obtain ⟨k, rfl⟩ : ∃ m, k = m + 1 + 1 := ⟨k - 2, by omega⟩
  by_cases h : 40 < s.data.toList.length
  · rw [if_pos (by omega), if_pos h]; rfl
  · have hl0 : s.size ≤ 40 := by omega
    rw [if_neg (by omega), if_neg h]
    have hn : ([110, 111, 100, 101, 95, 109, 111, 100, 117, 108, 101, 115] : List UInt8) = nm := rfl
    rw [toList_eq, hn]
    by_cases h1 : s.data.toList = nm
    · rw [if_pos h1, h1]; rfl
    · rw [if_neg h1, beq_eq_false_iff_ne.2 h1]
      simp only [hoggetref03_Good.j0, Bool.false_eq_true, if_false]
      rw [rslash_eq _ s (by omega) (by omega), toList_eq]
      simp only [Option.bind_some]
      have h0 := At.zero s
      cases hd : s.data.toList with
      | nil =>
        simp only [if_true, hoggetref03_Good.j1]
        rw [rplain_eq k s (by omega) (by omega), hd]; rfl
      | cons x r =>
        rw [hd] at h0 hl
        simp only [List.length_cons] at hl
        rw [if_neg (by simp), if_pos (by omega), h0.byte]
        have he := @u8_eq x 64
        have h64 : (((64 : UInt8).toNat : Nat) : Int) = 64 := rfl
        rw [h64] at he
        have hge := Lib.indexByte_ge r 47
        by_cases hx : x = 64
        · subst hx
          have hb : (((64 : UInt8).toNat : Int) != 64) = false := rfl
          rw [hb]
          simp only [hoggetref03_Good.j1, Bool.false_eq_true, if_false, if_true]
          have hi : Lib.indexByte (64 :: r) 47 = if Lib.indexByte r 47 = -1 then -1 else Lib.indexByte r 47 + 1 := by
            rw [Lib.indexByte]
            simp
          have hlt := Cut.indexByte_lt r 47
          rw [hi, cutL_index]
          by_cases h2 : Lib.indexByte r 47 = -1
          · simp [h2]
          · have h3 : 0 ≤ Lib.indexByte r 47 := by omega
            obtain ⟨j, hj⟩ := Int.eq_ofNat_of_zero_le h3
            rw [if_neg h2, if_pos h3]
            rw [hj] at hlt ⊢
            have w1 : wrap64 ((j : Int) + 1 + 1) = (j : Int) + 1 + 1 := by unfold wrap64; omega
            rw [if_pos (by omega), if_pos (by omega), if_pos (by omega), w1]
            have e1 : (s.extract 1 ((j : Int) + 1).toNat).data.toList = r.take j := by
              rw [extract_list, hd, show ((j : Int) + 1).toNat = j + 1 by omega]; rfl
            have e2 : (s.extract ((j : Int) + 1 + 1).toNat s.size).data.toList = r.drop (j + 1) := by
              rw [extract_list, hd, show ((j : Int) + 1 + 1).toNat = j + 1 + 1 by omega, List.take_of_length_le (by simp; omega)]; rfl
            have z1 : (s.extract 1 ((j : Int) + 1).toNat).size ≤ 40 := by rw [← len, e1, List.length_take]; omega
            have z2 : (s.extract ((j : Int) + 1 + 1).toNat s.size).size ≤ 40 := by rw [← len, e2, List.length_drop]; omega
            rw [rplain_eq k _ (by omega) (by omega), e1]
            simp only [Option.bind_some, Int.toNat_natCast, if_true]
            cases plainL (r.take j)
            · simp
            · rw [if_pos rfl, if_pos (by omega), if_pos (by omega), rplain_eq k _ (by omega) (by omega), e2]; rfl
        · have hb : ((x.toNat : Int) != 64) = true := bne_iff_ne.2 (fun e => hx (he.2 e))
          rw [hb]
          simp only [hoggetref03_Good.j1, if_true, if_neg hx]
          rw [rplain_eq k s (by omega) (by omega), hd]; rfl

end Go.Proofs.Ytkcfigfhbeohfaa.Nm
