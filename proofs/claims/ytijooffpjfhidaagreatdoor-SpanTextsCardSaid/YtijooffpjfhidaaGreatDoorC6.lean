/- Texts that the claims' laws stand on, put together by a program of this session (wip/prune.py): printed functions, their walks, and plain lemmas. -/
import Derived.Test.YtijooffpjfhidaaGreatDoorRows
import Derived.Lib.LaidU8
import Derived.MakeChecks
import Derived.LaidMore
import Derived.OpenShut
import Derived.Handed
import Derived.HandedShaped
import Derived.Shelf.Vars
import Derived.Lib.SmallJoins
import Derived.WalkKit
import Derived.ProofKit
import Derived.ShutString
import Derived.ChangeOld
import Derived.SizedLaws
import Derived.ChangeArms
import Derived.SliceStrings
import Derived.DataElems
import Derived.DataReads
import Derived.WideShapes
import Derived.Test.YtijooffpjfhidaaGreatDoorC5
set_option linter.unusedVariables false
set_option linter.unusedSimpArgs false
section
namespace Go.Proofs.YtijooffpjfhidaaGreatDoor.Vp
open Go Go.RowKit Go.Proofs.YtijooffpjfhidaaGreatDoorW.PrintWords Go.Proofs.YtijooffpjfhidaaGreatDoor.Txt Go.Proofs.YtijooffpjfhidaaGreatDoor.Trim Go.Proofs.YtijooffpjfhidaaGreatDoor.Num Go.Proofs.YtijooffpjfhidaaGreatDoor.Seq Go.Proofs.YtijooffpjfhidaaGreatDoor.G
def altR : List (List UInt8) → Option (List Bd)
  | [] => some []
  | w :: ws => if (oneP w).2 = true then (altR ws).bind fun b => some ((oneP w).1 ++ b) else none
def altsR : List (List UInt8) → Option Ran
  | [] => some []
  | l :: ls => (altR (words l)).bind fun a => (altsR ls).bind fun r => some (a :: r)
theorem one_word (w : List UInt8) : match wordP w with
    | none => (oneP w).2 = false
    | some a => oneP w = (a, true) ∨ ((oneP w).2 = false ∧ a.all boundOk = false) := by
  cases w with
  | nil => exact .inl rfl
  | cons c r =>
    simp only [wordP, oneP]
    by_cases h1 : c = 42 ∧ r = []
    · rw [if_pos h1, if_pos h1]; exact .inl rfl
    · rw [if_neg h1, if_neg h1]
      by_cases h2 : c = 94 ∨ c = 126
      · rw [if_pos h2, if_pos h2]
        by_cases h3 : (parseP r).2 = true
        · rw [if_pos h3]
          show twoP r _ = _ ∨ _
          unfold twoP
          rw [h3, Bool.true_and]
          by_cases h4 : rightB (nextV (parseP r).1 (decide (c = 126))) = true
          · rw [h4]; exact .inl rfl
          · rw [Bool.not_eq_true] at h4
            refine .inr ⟨h4, ?_⟩
            simp [boundOk, h4]
        · rw [if_neg h3]
          show (twoP r _).2 = false
          unfold twoP
          rw [Bool.not_eq_true] at h3
          rw [h3]; rfl
      · rw [if_neg h2, if_neg h2]
        by_cases h3 : (parseP (opW (c :: r)).2).2 = true
        · rw [if_pos h3, h3]; exact .inl rfl
        · rw [if_neg h3]
          rwa [Bool.not_eq_true] at h3
theorem alt_alt : ∀ ws : List (List UInt8), match altP ws with
    | none => altR ws = none
    | some a => altR ws = some a ∨ (altR ws = none ∧ a.all boundOk = false)
  | [] => .inl rfl
  | w :: ws => by
    have h1 := one_word w
    have ih := alt_alt ws
    simp only [altP, altR]
    cases hw : wordP w with
    | none =>
      rw [hw] at h1
      show (if (oneP w).2 = true then _ else none) = none
      rw [if_neg (by rw [show (oneP w).2 = false from h1]; decide)]
    | some a =>
      rw [hw] at h1
      cases ha : altP ws with
      | none =>
        rw [ha] at ih
        show (if (oneP w).2 = true then _ else none) = none
        rw [show altR ws = none from ih]
        split <;> rfl
      | some b =>
        rw [ha] at ih
        show (if (oneP w).2 = true then _ else none) = some (a ++ b) ∨ _
        rcases (h1 : oneP w = (a, true) ∨ _) with h1 | ⟨h1, h2⟩
        · rw [h1, if_pos rfl]
          rcases (ih : altR ws = some b ∨ _) with ih | ⟨ih, ih2⟩
          · rw [ih]; exact .inl rfl
          · rw [ih]; exact .inr ⟨rfl, by rw [List.all_append, ih2, Bool.and_false]⟩
        · rw [if_neg (by rw [h1]; decide)]
          exact .inr ⟨rfl, by rw [List.all_append, h2, Bool.false_and]⟩
theorem alts_alts : ∀ ls : List (List UInt8), match altsP ls with
    | none => altsR ls = none
    | some r => altsR ls = some r ∨ (altsR ls = none ∧ r.all rightA = false)
  | [] => .inl rfl
  | l :: ls => by
    have h1 := alt_alt (words l)
    have ih := alts_alts ls
    simp only [altsP, altsR]
    cases hw : altP (words l) with
    | none =>
      rw [hw] at h1
      show ((altR (words l)).bind _) = none
      rw [show altR (words l) = none from h1]; rfl
    | some a =>
      rw [hw] at h1
      cases ha : altsP ls with
      | none =>
        rw [ha] at ih
        show ((altR (words l)).bind _) = none
        rw [show altsR ls = none from ih]
        cases altR (words l) <;> rfl
      | some b =>
        rw [ha] at ih
        show ((altR (words l)).bind _) = some (a :: b) ∨ _
        rcases (h1 : altR (words l) = some a ∨ _) with h1 | ⟨h1, h2⟩
        · rw [h1]
          rcases (ih : altsR ls = some b ∨ _) with ih | ⟨ih, ih2⟩
          · rw [ih]; exact .inl rfl
          · rw [ih]; exact .inr ⟨rfl, by rw [List.all_cons, ih2, Bool.and_false]⟩
        · rw [h1]
          exact .inr ⟨rfl, by rw [List.all_cons, rightA_def, h2, Bool.and_false, Bool.false_and]⟩
theorem fin_alts (ls : List (List UInt8)) : finR (altsR ls) = finR (altsP ls) := by
  have h := alts_alts ls
  cases ha : altsP ls with
  | none => rw [ha] at h; rw [show altsR ls = none from h]
  | some r =>
    rw [ha] at h
    rcases (h : altsR ls = some r ∨ _) with h | ⟨h, h2⟩
    · rw [h]
    · rw [h]
      simp only [finR]
      rw [if_neg]
      unfold rightR
      rw [h2, Bool.and_false]; decide
def SzP (n : Nat) (l : List Bd) : Prop := ∀ b ∈ l, b.2.2.2.2.size ≤ n
theorem oneP_sz (w : List UInt8) : SzP w.length (oneP w).1 ∧ (oneP w).1.length ≤ 2 := by
  cases w with
  | nil => exact ⟨fun b hb => by simp [oneP] at hb, by simp [oneP]⟩
  | cons c r =>
    simp only [oneP]
    split
    · exact ⟨fun b hb => by simp at hb, by simp⟩
    · split
      · refine ⟨fun b hb => ?_, by simp [twoP]⟩
        simp only [twoP, List.mem_cons, List.not_mem_nil, or_false] at hb
        have := parse_sz r
        rcases hb with rfl | rfl
        · show (parseP r).1.2.2.2.size ≤ _; simp; omega
        · have := next_pre (parseP r).1 (decide (c = 126)); simp only at this ⊢; omega
      · refine ⟨fun b hb => ?_, by simp⟩
        simp only [List.mem_singleton] at hb
        subst hb
        have h1 := parse_sz (opW (c :: r)).2
        have h2 := opW_len (c :: r)
        show (parseP (opW (c :: r)).2).1.2.2.2.size ≤ _; omega
theorem szA_ofA {n : Nat} {l : List Bd} (h : SzP n l) : SzA n (ofA l) := fun b hb => by
  obtain ⟨c, hc, rfl⟩ := List.mem_map.1 hb
  exact h c hc
theorem szA_app {n : Nat} {a b : List S45} (ha : SzA n a) (hb : SzA n b) : SzA n (a ++ b) := fun x hx => (List.mem_append.1 hx).elim (ha x) (hb x)
def finS (o : Option (List (List S45))) : List (List S45) × Bool :=
  match o with
  | some r => if rightR (toR r) = true then (r, true) else ([], false)
  | none => ([], false)
theorem rParse_l1 (L : List ByteArray) (W : List ByteArray) (hW : W.length ≤ 200000) (S : Nat) (hS : S ≤ 100000) (K : Nat) (hK : 5 * S + 300 < K) (i : Int) (hi : wrap64 (i + 1) = i + 1) (all : List (List S45)) (hall : all.length ≤ 1000000) (R : List S45 → Option (List (List S45) × Bool))
    (hR : ∀ k a, K ≤ k → SzA S a → hoggetref05_Parse.l0 k L (i + 1) (all ++ [a]) = R a) :
    ∀ (ws : List (List UInt8)) (k : Nat) (j : Int) (acc : List S45), Lt W j (ws.map mk) → (∀ w ∈ ws, w ≠ [] ∧ w.length ≤ S) → SzA S acc → acc.length + 2 * ws.length ≤ 1000000 → K + ws.length + 1 ≤ k →
      hoggetref05_Parse.l1 k L i W acc j all = (match altR ws with | some b => R (acc ++ ofA b) | none => some ([], false))
  | [], k, j, acc, h, _, hs, _, hk => by
    obtain ⟨k, rfl, hk'⟩ := pred (show K < k by simp at hk; omega)
    simp only [hoggetref05_Parse.l1]
    rw [if_neg h.not_lt, if_pos (by omega), hi, hR k acc (by simp at hk; omega) hs]
    simp [altR, ofA]
  | w :: ws, k, j, acc, h, hw, hs, ha, hk => by
    obtain ⟨k, rfl, hk'⟩ := pred (show K < k by simp at hk; omega)
    simp only [List.length_cons] at ha hk
    have hr : rdOf ByteArray.empty W j = mk w := h.rd _
    obtain ⟨hne, hwl⟩ := hw w List.mem_cons_self
    have hsz := oneP_sz w
    simp only [hoggetref05_Parse.l1]
    rw [if_pos h.lt, if_pos h.ge, hr]
    cases w with
    | nil => exact absurd rfl hne
    | cons c r =>
      rw [List.length_cons] at hwl
      rw [rone_eq k c r (by omega) (by omega)]
      simp only [Option.bind_some, altR]
      by_cases ho : (oneP (c :: r)).2 = true
      · have hsa : SzA S (ofA (oneP (c :: r)).1) := szA_ofA (fun b hb => by have := hsz.1 b hb; rw [List.length_cons] at this; omega)
        have hl : (ofA (oneP (c :: r)).1).length ≤ 2 := by rw [ofA_len]; exact hsz.2
        rw [if_pos ho, if_pos ho, if_pos (by omega), h.wrap (by omega), rParse_l1 L W hW S hS K hK i hi all hall R hR ws k (j + 1) _ h.next (fun x hx => hw x (List.mem_cons_of_mem _ hx)) (szA_app hs hsa) (by rw [List.length_append]; omega) (by omega)]
        cases altR ws with
        | none => rfl
        | some b => simp [ofA_app]
      · rw [if_neg ho, if_neg ho]
theorem words_len (l : List UInt8) : (words l).length ≤ l.length + 1 := Nat.le_trans (List.length_filter_le _ _) (cuts_len 32 l)
theorem words_mem {l w : List UInt8} (h : w ∈ words l) : w ≠ [] ∧ w.length ≤ l.length := by
  unfold words at h
  rw [List.mem_filter] at h
  refine ⟨fun e => ?_, cuts_le 32 l w h.1⟩
  have := h.2
  rw [e] at this; simp at this
theorem rParse_l0 (L : List ByteArray) (hL : L.length ≤ 100000) (S : Nat) (hS : S ≤ 100000) : ∀ (ls : List (List UInt8)) (k : Nat) (i : Int) (all : List (List S45)), Lt L i (ls.map mk) → (∀ l ∈ ls, l.length ≤ S) → SzR S all → all.length + ls.length ≤ 1000000 → (S + 4) * ls.length + 5 * S + 302 ≤ k →
      hoggetref05_Parse.l0 k L i all = some (finS ((altsR ls).bind fun r => some (all ++ ofR r)))
  | [], k, i, all, h, _, hs, ha, hk => by
    obtain ⟨k, rfl, hk'⟩ := pred (show 0 < k by omega)
    simp only [hoggetref05_Parse.l0]
    rw [if_neg h.not_lt, rRight05_eq k all S (by omega) hs (by simp at hk; omega)]
    simp only [Option.bind_some, altsR, ofR, List.map_nil, List.append_nil, finS]
    split <;> rfl
  | l :: ls, k, i, all, h, hl, hs, ha, hk => by
    obtain ⟨k, rfl, hk'⟩ := pred (show 0 < k by omega)
    rw [List.length_cons, Nat.mul_add, Nat.mul_one] at hk
    rw [List.length_cons] at ha
    have hr : rdOf ByteArray.empty L i = mk l := h.rd _
    have hls := hl l List.mem_cons_self
    have hwl := words_len l
    simp only [hoggetref05_Parse.l0]
    rw [if_pos h.lt, if_pos h.ge, hr, rwords_eq k (mk l) (by rw [mk_size]; omega) (by rw [mk_size]; omega), dl_mk]
    simp only [Option.bind_some]
    rw [rParse_l1 L _ (by rw [List.length_map]; omega) S hS ((S + 4) * ls.length + 5 * S + 302) (by omega) i (h.wrap (by omega)) all (by omega) (fun a => some (finS ((altsR ls).bind fun r => some ((all ++ [a]) ++ ofR r))))
      (fun k a hk hsa => rParse_l0 L hL S hS ls k (i + 1) (all ++ [a]) h.next (fun x hx => hl x (List.mem_cons_of_mem _ hx)) (fun x hx => (List.mem_append.1 hx).elim (hs x) (fun hx => by simp only [List.mem_singleton] at hx; subst hx; exact hsa)) (by rw [List.length_append, List.length_singleton]; omega) hk)
      (words l) k 0 [] (Lt.zero _) (fun w hw => ⟨(words_mem hw).1, by have := (words_mem hw).2; omega⟩) (fun b hb => by simp at hb) (by simp; omega) (by omega)]
    simp only [altsR]
    cases altR (words l) with
    | none => rfl
    | some a =>
      simp only [Option.bind_some, List.nil_append]
      cases altsR ls with
      | none => rfl
      | some r => simp [ofR]
theorem finS_finR (o : Option Ran) : finS (o.bind fun r => some ([] ++ ofR r)) = (ofR (finR o).1, (finR o).2) := by
  cases o with
  | none => rfl
  | some r =>
    simp only [Option.bind_some, finS, finR, List.nil_append, toR_ofR]
    split <;> rfl
theorem rParse05_eq (k : Nat) (s : ByteArray) (hs : s.size ≤ 10000) (hk : 200000000 < k) : hoggetref05_Parse.f k s = some (ofR (parseR (dl s)).1, (parseR (dl s)).2) := by
  have hl := cuts2_len (dl s)
  rw [dl_len] at hl
  have h2 := dl_len s
  unfold hoggetref05_Parse.f
  rw [rsplit_eq k s (by omega) (by omega)]
  simp only [Option.bind_some]
  rw [rParse_l0 _ (by rw [List.length_map]; omega) 10000 (by omega) (cuts2 (dl s)) k 0 [] (Lt.zero _) (fun l hl => by have := cuts2_le _ l hl; omega) (fun l hl => by simp at hl) (by simp; omega) (by omega)]
  rw [finS_finR, fin_alts]; rfl
theorem cutp_eq (s : ByteArray) (u : List UInt8) (hu : u.length ≤ 100) (hs : s.size ≤ 2147483647) : strings_CutPrefix.f s (mk u) = some (if u.isPrefixOf (dl s) = true then (mk ((dl s).drop u.length), true) else (s, false)) := by
  have hd := dl_len s
  have hz := mk_size u
  have hp := pre_take u (dl s)
  unfold strings_CutPrefix.f stringslite_CutPrefix.f stringslite_HasPrefix.f
  have hx : s.extract u.length s.size = mk ((dl s).drop u.length) := by
    apply ext
    rw [extract_list]
    change ((dl s).take s.size).drop _ = _
    rw [List.take_of_length_le (by omega)]; rfl
  by_cases h1 : (s.size : Int) ≥ ((mk u).size : Int)
  · rw [if_pos h1, if_pos (by omega), if_pos (by omega), toList_eq, extract_list, mk_toList, Int.toNat_natCast, List.drop_zero, hz]
    change ((some (List.take u.length (dl s) == u)).bind _).bind _ = _
    by_cases h2 : (dl s).take u.length = u
    · rw [if_pos (hp.2 ⟨by omega, h2⟩)]
      have e : (List.take u.length (dl s) == u) = true := beq_iff_eq.2 h2
      rw [e]
      simp only [Option.bind_some, if_true]
      rw [if_pos (by omega), if_pos (by omega), hx]; rfl
    · rw [if_neg (fun e => h2 (hp.1 e).2)]
      have e : (List.take u.length (dl s) == u) = false := beq_eq_false_iff_ne.2 h2
      rw [e]; rfl
  · rw [if_neg h1]
    have : u.isPrefixOf (dl s) = false := by rw [← Bool.not_eq_true]; exact fun e => h1 (by have := (hp.1 e).1; omega)
    rw [this]; rfl
theorem hasp_eq (s : ByteArray) (hs : s.size ≤ 2147483647) : strings_HasPrefix.f s ⟨#[126]⟩ = some ([126].isPrefixOf (dl s)) := by
  have hd := dl_len s
  have hp := pre_take [126] (dl s)
  have e1 : (⟨#[126]⟩ : ByteArray) = mk [126] := rfl
  have hz : (mk [126]).size = 1 := rfl
  unfold strings_HasPrefix.f stringslite_HasPrefix.f
  rw [e1]
  by_cases h1 : (s.size : Int) ≥ ((mk [126]).size : Int)
  · rw [if_pos h1, if_pos (by omega), if_pos (by omega), toList_eq, extract_list, mk_toList, Int.toNat_natCast, List.drop_zero, hz]
    change (some (List.take 1 (dl s) == [126])).bind _ = _
    by_cases h2 : (dl s).take 1 = [126]
    · have e : (List.take 1 (dl s) == [126]) = true := beq_iff_eq.2 h2
      rw [e, hp.2 ⟨by simp; omega, h2⟩]; rfl
    · have e : (List.take 1 (dl s) == [126]) = false := beq_eq_false_iff_ne.2 h2
      have : [126].isPrefixOf (dl s) = false := by rw [← Bool.not_eq_true]; exact fun e => h2 (hp.1 e).2
      rw [e, this]; rfl
  · rw [if_neg h1]
    have : [126].isPrefixOf (dl s) = false := by rw [← Bool.not_eq_true]; exact fun e => h1 (by have := (hp.1 e).1; simp at this; omega)
    rw [this]; rfl
def sgL : List (Int × List UInt8) := [(3, [60, 61]), (5, [62, 61]), (2, [60]), (4, [62]), (1, [61])]
theorem signs_sgL : span_Print.signs = sgL.map fun x => (x.1, mk x.2) := rfl
theorem sg_off (s : ByteArray) (hs : s.size ≤ 2147483647) (op : Int) (rest : ByteArray) (hr : rest ≠ s) : ∀ l : List (Int × List UInt8), (∀ x ∈ l, x.2.length ≤ 100) → span_Parse.sg s (l.map fun x => (x.1, mk x.2)) op rest = some (op, rest)
  | [], _ => rfl
  | x :: l, h => by
    rw [List.map_cons, span_Parse.sg, cutp_eq s x.2 (h x List.mem_cons_self) hs]
    have ih := sg_off s hs op rest hr l (fun y hy => h y (List.mem_cons_of_mem _ hy))
    simp only [Option.bind_some, ih, if_neg hr]
    simp
theorem sg_on (s : ByteArray) (hs : s.size ≤ 2147483647) (x : Int × List UInt8) (l : List (Int × List UInt8)) (h : ∀ y ∈ x :: l, y.2.length ≤ 100 ∧ y.2 ≠ []) (op : Int) :
    span_Parse.sg s ((x :: l).map fun x => (x.1, mk x.2)) op s = if x.2.isPrefixOf (dl s) = true then some (x.1, mk ((dl s).drop x.2.length)) else span_Parse.sg s (l.map fun x => (x.1, mk x.2)) op s := by
  rw [List.map_cons, span_Parse.sg, cutp_eq s x.2 (h x List.mem_cons_self).1 hs]
  by_cases hp : x.2.isPrefixOf (dl s) = true
  · rw [if_pos hp, if_pos hp]
    simp only [Option.bind_some, if_true]
    have hne : mk ((dl s).drop x.2.length) ≠ s := fun e => by
      have h1 := congrArg ByteArray.size e
      rw [mk_size, List.length_drop, dl_len] at h1
      have h2 := ((pre_take _ _).1 hp).1
      rw [dl_len] at h2
      have h3 : 0 < x.2.length := List.length_pos_iff.2 (h x List.mem_cons_self).2
      omega
    rw [sg_off s hs _ _ hne l (fun y hy => (h y (List.mem_cons_of_mem _ hy)).1)]
  · rw [if_neg hp, if_neg hp]
    simp
theorem sg_eq (s : ByteArray) (hs : s.size ≤ 2147483647) : span_Parse.sg s span_Print.signs 1 s = some ((opW (dl s)).1, mk (opW (dl s)).2) := by
  have H : ∀ y ∈ sgL, y.2.length ≤ 100 ∧ y.2 ≠ [] := by decide
  rw [signs_sgL]
  unfold sgL at H ⊢
  rw [sg_on s hs _ _ H, sg_on s hs _ _ (fun y hy => H y (List.mem_cons_of_mem _ hy)), sg_on s hs _ _ (fun y hy => H y (List.mem_cons_of_mem _ (List.mem_cons_of_mem _ hy))), sg_on s hs _ _ (fun y hy => H y (List.mem_cons_of_mem _ (List.mem_cons_of_mem _ (List.mem_cons_of_mem _ hy)))),
    sg_on s hs _ _ (fun y hy => H y (List.mem_cons_of_mem _ (List.mem_cons_of_mem _ (List.mem_cons_of_mem _ (List.mem_cons_of_mem _ hy)))))]
  rw [opW_opI]
  unfold opI
  simp only
  by_cases h1 : [60, 61].isPrefixOf (dl s) = true
  · simp [h1, sgn]
  · by_cases h2 : [62, 61].isPrefixOf (dl s) = true
    · simp [h1, h2, sgn]
    · by_cases h3 : [60].isPrefixOf (dl s) = true
      · simp [h1, h2, h3, sgn]
      · by_cases h4 : [62].isPrefixOf (dl s) = true
        · simp [h1, h2, h3, h4, sgn]
        · by_cases h5 : [61].isPrefixOf (dl s) = true
          · simp [h1, h2, h3, h4, h5, sgn]
          · simp [h1, h2, h3, h4, h5, span_Parse.sg, mk_dl]
theorem above_eq (l : List UInt8) (t : Bool) : span_above.f (parseP l).1.1 (parseP l).1.2.1 (parseP l).1.2.2.1 (parseP l).1.2.2.2 t = some ((nextV (parseP l).1 t).1, (nextV (parseP l).1 t).2.1, (nextV (parseP l).1 t).2.2.1, (nextV (parseP l).1 t).2.2.2) := by
  have h := parse_rng l
  unfold span_above.f nextV
  rw [wrapS (by omega) (by omega), wrapS (by omega) (by omega), wrapS (by omega) (by omega)]
  cases t with
  | true => rfl
  | false =>
    simp only [Bool.false_eq_true, if_false]
    (repeat' split) <;> rfl
theorem pword_eq (k : Nat) (s : ByteArray) (hs : s.size ≤ 2147483640) (hk : s.size + 20 < k) : span_Parse.word k s = some (match wordP (dl s) with | some a => (ofA a, true) | none => ([], false)) := by
  have hd := dl_len s
  unfold span_Parse.word
  rw [toList_eq]
  change (if (dl s).isEmpty = true then _ else _) = _
  cases hl : dl s with
  | nil => rfl
  | cons c r =>
    rw [hl, List.length_cons] at hd
    have h0 := At0 s
    rw [hl] at h0
    have hb := h0.byte
    have e42 : (⟨#[42]⟩ : ByteArray) = mk [42] := rfl
    rw [if_neg (by simp)]
    simp only [wordP]
    by_cases h42 : c = 42 ∧ r = []
    · have : s = ⟨#[42]⟩ := dl_inj (by rw [hl, h42.1, h42.2]; rfl)
      rw [if_pos this, if_pos h42]; rfl
    · have : ¬ s = ⟨#[42]⟩ := fun e => h42 (by
        have := congrArg dl e
        rw [hl, e42, dl_mk] at this
        exact List.cons.inj this)
      have hpre : [126].isPrefixOf (c :: r) = decide (c = 126) := by
        simp only [List.isPrefixOf, Bool.and_true]
        by_cases h : c = 126
        · subst h; rfl
        · rw [decide_eq_false h]; exact beq_eq_false_iff_ne.2 (fun e => h e.symm)
      have hx1 : s.extract 1 s.size = mk r := by rw [← mk_dl s, hl, mk_extract, mk_size]; simp
      have hne : mk r ≠ s := fun e => by have := congrArg ByteArray.size e; rw [mk_size] at this; omega
      have hwide : span_Parse.wide s (decide (c = 126)) = decide (c = 94 ∨ c = 126) := by
        unfold span_Parse.wide
        rw [hb]
        have : decide ((c.toNat : Int) = 94) = decide (c = 94) := by rw [decide_eq_decide]; exact (u8_eq (d := 94)).symm
        rw [this, ← Bool.decide_or, decide_eq_decide]
        exact or_comm
      rw [if_neg this, if_neg h42, hasp_eq s (by omega), hl, hpre]
      simp only [Option.bind_some, hwide]
      by_cases hw : c = 94 ∨ c = 126
      · rw [decide_eq_true hw, if_pos hw, if_pos rfl, if_pos rfl, hx1, signs_sgL, sg_off s (by omega) _ _ hne _ (fun y hy => by revert y; decide)]
        simp only [Option.bind_some]
        rw [pParse_eq k (mk r) (by rw [mk_size]; omega) (by rw [mk_size]; omega), dl_mk]
        simp only [Option.bind_some, flat5]
        rw [above_eq]
        cases (parseP r).2 <;> simp [ofA, ofB, ofV]
      · rw [decide_eq_false hw, if_neg hw, if_neg (by decide), if_neg (by decide), sg_eq s (by omega), hl]
        simp only [Option.bind_some]
        have ho := opW_len (c :: r)
        rw [List.length_cons] at ho
        rw [pParse_eq k _ (by rw [mk_size]; omega) (by rw [mk_size]; omega), dl_mk]
        simp only [Option.bind_some, flat5]
        cases (parseP (opW (c :: r)).2).2 <;> simp [ofA, ofB, ofV]
theorem wordP_len {w : List UInt8} {a : List Bd} (h : wordP w = some a) : a.length ≤ 2 ∧ SzP w.length a := by
  have h1 := one_word w
  have h2 := oneP_sz w
  cases w with
  | nil => simp [wordP] at h; subst h; exact ⟨by simp, fun b hb => by simp at hb⟩
  | cons c r =>
    simp only [wordP] at h
    split at h
    · obtain rfl := Option.some.inj h; exact ⟨by simp, fun b hb => by simp at hb⟩
    · split at h
      · split at h
        · obtain rfl := Option.some.inj h
          refine ⟨by simp, fun b hb => ?_⟩
          simp only [List.mem_cons, List.not_mem_nil, or_false] at hb
          have := parse_sz r
          rcases hb with rfl | rfl
          · show (parseP r).1.2.2.2.size ≤ _; simp; omega
          · have := next_pre (parseP r).1 (decide (c = 126)); simp only at this ⊢; omega
        · cases h
      · split at h
        · obtain rfl := Option.some.inj h
          refine ⟨by simp, fun b hb => ?_⟩
          simp only [List.mem_singleton] at hb
          subst hb
          have h1 := parse_sz (opW (c :: r)).2
          have h2 := opW_len (c :: r)
          show (parseP (opW (c :: r)).2).1.2.2.2.size ≤ _; omega
        · cases h
theorem altP_filter : ∀ ws : List (List UInt8), altP (ws.filter fun w => !w.isEmpty) = altP ws
  | [] => rfl
  | [] :: ws => by
    rw [List.filter_cons, if_neg (by simp), altP_filter ws]
    simp only [altP, wordP, Option.bind_some, List.nil_append]
    cases altP ws <;> rfl
  | (c :: r) :: ws => by rw [List.filter_cons, if_pos (by simp), altP, altP, altP_filter ws]
theorem pread_eq (k S : Nat) (hS : S ≤ 2147483000) (hk : S + 20 < k) : ∀ (ws : List (List UInt8)) (acc : List S45), (∀ w ∈ ws, w.length ≤ S) → acc.length + 2 * ws.length < 1000000 →
    span_Parse.read k (ws.map mk) acc = some (match altP ws with | some a => (acc ++ ofA a, true) | none => ([], false))
  | [], acc, _, _ => by simp [span_Parse.read, altP, ofA]
  | w :: ws, acc, h, ha => by
    rw [List.length_cons] at ha
    have hw := h w List.mem_cons_self
    rw [List.map_cons, span_Parse.read, if_pos (by omega), pword_eq k (mk w) (by rw [mk_size]; omega) (by rw [mk_size]; omega), dl_mk]
    simp only [Option.bind_some, altP]
    cases hp : wordP w with
    | none => rfl
    | some a =>
      have hl := (wordP_len hp).1
      simp only [Bool.true_eq_false, if_false, Option.bind_some]
      rw [pread_eq k S hS hk ws (acc ++ ofA a) (fun x hx => h x (List.mem_cons_of_mem _ hx)) (by rw [List.length_append, ofA_len]; omega)]
      cases altP ws with
      | none => rfl
      | some b => simp [ofA_app]
theorem pbound_ok (b : S45) : boundOk (toB b) = (decide (1 ≤ b.f0 ∧ b.f0 ≤ 5) && rightB (toV b.f1)) := rfl
theorem pRight_l1 (all : List (List S45)) (hall : all.length ≤ 1000000) (S K : Nat) (hS : S ≤ 1000000) (hK : S + 20 < K) (R : Option Bool) (i : Int) (hi : wrap64 (i + 1) = i + 1) (x : List S45) (hxl : x.length ≤ 1000000) (hR : ∀ k, K ≤ k → span_right.l0 k all all.length (i + 1) all = R) :
    ∀ (r : List S45) (k : Nat) (j : Int), Lt x j r → SzA S r → K + r.length + 1 ≤ k → span_right.l1 k x all all.length i x x.length j all = if (r.all fun b => boundOk (toB b)) = true then (if x.length > 8 then some false else R) else some false
  | [], k, j, h, _, hk => by
    obtain ⟨k, rfl, hk'⟩ := pred (show K < k by simp at hk; omega)
    simp only [span_right.l1]
    rw [if_neg h.not_lt, hi, hR k (by simp at hk; omega), List.all_nil, if_pos rfl]
    by_cases h8 : x.length > 8
    · rw [if_pos h8, if_pos (by omega)]
    · rw [if_neg h8, if_neg (by omega)]
  | b :: r, k, j, h, hs, hk => by
    obtain ⟨k, rfl, hk'⟩ := pred (show K < k by simp at hk; omega)
    have hb : rd_T45 x j = b := h.rd _
    have hbs := hs b List.mem_cons_self
    have ih := pRight_l1 all hall S K hS hK R i hi x hxl hR r k (j + 1) h.next (fun c hc => hs c (List.mem_cons_of_mem _ hc)) (by simp at hk; omega)
    have hp : version_Print.f k b.f1.f0 b.f1.f1 b.f1.f2 b.f1.f3 = some (mk (printP (toV b.f1)).1, (printP (toV b.f1)).2) := print_eq k (toV b.f1) (by show b.f1.f3.size ≤ _; omega) (by show b.f1.f3.size + 10 < k; omega)
    have hp2 : (printP (toV b.f1)).2 = rightB (toV b.f1) := by unfold printP; split <;> simp_all
    have hO := pbound_ok b
    have hall2 : ((b :: r).all fun b => boundOk (toB b)) = (boundOk (toB b) && r.all fun b => boundOk (toB b)) := rfl
    simp only [span_right.l1]
    rw [if_pos h.lt, if_pos h.ge, if_pos h.lt, hb, hp, h.wrap (by omega)]
    simp only [Option.bind_some, hp2, ih]
    generalize (if x.length > 8 then some false else R) = Y
    by_cases hq : rightB (toV b.f1) = true
    · rw [if_pos hq]
      by_cases c1 : b.f0 < 1
      · rw [if_pos c1, if_neg (by rw [hall2, hO, decide_eq_false (by omega)]; simp)]
      · rw [if_neg c1]
        by_cases c2 : b.f0 > 5
        · rw [if_pos c2, if_neg (by rw [hall2, hO, decide_eq_false (by omega)]; simp)]
        · rw [if_neg c2]
          rw [decide_eq_true (show 1 ≤ b.f0 ∧ b.f0 ≤ 5 by omega), hq] at hO
          by_cases ha : (r.all fun b => boundOk (toB b)) = true
          · rw [if_pos ha, if_pos (by rw [hall2, hO, ha]; rfl)]
          · rw [if_neg ha, if_neg (by rw [hall2, hO]; simpa using ha)]
    · rw [Bool.not_eq_true] at hq
      rw [if_neg (by rw [hq]; decide), if_neg (c := ((b :: r).all fun b => boundOk (toB b)) = true) (by rw [hall2, hO, hq]; simp)]
theorem allB_toA (x : List S45) : (toA x).all boundOk = x.all fun b => boundOk (toB b) := by unfold toA; rw [List.all_map]; rfl
theorem pRight_l0 (all : List (List S45)) (hall : all.length ≤ 1000000) (S M C : Nat) (hM : M ≤ 1000000) (hS : S ≤ 1000000) (hC : S + 20 < C) : ∀ (rest : List (List S45)) (k : Nat) (i : Int), Lt all i rest → SzR S rest → (∀ x ∈ rest, x.length ≤ M) → (M + 2) * rest.length + C ≤ k →
    span_right.l0 k all all.length i all = some ((toR rest).all rightA && decide (1 ≤ all.length ∧ all.length ≤ 8))
  | [], k, i, h, _, _, hk => by
    obtain ⟨k, rfl, hk'⟩ := pred (show 0 < k by omega)
    simp only [span_right.l0]
    rw [if_neg h.not_lt]
    show _ = some (true && _)
    rw [Bool.true_and]
    by_cases h1 : (all.length : Int) ≥ 1
    · rw [if_pos h1]
      congr 1
      rw [decide_eq_decide]; omega
    · rw [if_neg h1, decide_eq_false (by omega)]
  | x :: rest, k, i, h, hs, hx, hk => by
    obtain ⟨k, rfl, hk'⟩ := pred (show 0 < k by omega)
    rw [List.length_cons, Nat.mul_add, Nat.mul_one] at hk
    have hr : rd_L4 all i = x := h.rd _
    have hxl := hx x List.mem_cons_self
    simp only [span_right.l0]
    rw [if_pos h.lt, if_pos h.ge, if_pos h.lt, hr]
    rw [pRight_l1 all hall S ((M + 2) * rest.length + C) hS (by omega) _ i (h.wrap (by omega)) x (by omega) (fun k hk => pRight_l0 all hall S M C hM hS hC rest k (i + 1) h.next (fun y hy => hs y (List.mem_cons_of_mem _ hy)) (fun y hy => hx y (List.mem_cons_of_mem _ hy)) hk) x k 0 (Lt.zero x) (hs x List.mem_cons_self) (by omega)]
    rw [toR_cons, List.all_cons, rightA_def, toA_len, allB_toA]
    by_cases ha : (x.all fun b => boundOk (toB b)) = true
    · rw [if_pos ha, ha, Bool.and_true]
      by_cases h8 : x.length > 8
      · rw [if_pos h8, decide_eq_false (show ¬ x.length ≤ 8 by omega)]; rfl
      · rw [if_neg h8, decide_eq_true (show x.length ≤ 8 by omega), Bool.true_and]
    · rw [if_neg ha]
      rw [Bool.not_eq_true] at ha
      rw [ha, Bool.and_false]; rfl
theorem pRight_eq (k : Nat) (all : List (List S45)) (S M : Nat) (hall : all.length ≤ 100000) (hM : M ≤ 100000) (hS : S ≤ 100000) (hs : SzR S all) (hx : ∀ x ∈ all, x.length ≤ M) (hk : (M + 2) * all.length + S + 21 ≤ k) : span_right.f k all = some (rightR (toR all)) := by
  unfold span_right.f rightR
  rw [pRight_l0 all (by omega) S M (S + 21) (by omega) (by omega) (by omega) all k 0 (Lt.zero all) hs hx (by omega), toR_len, Bool.and_comm]
theorem pgo_eq (k S : Nat) (hS : S ≤ 20000) : ∀ (ps : List (List UInt8)) (all : List (List S45)), (∀ p ∈ ps, p.length ≤ S) → SzR S all → (∀ x ∈ all, x.length ≤ 2 * S + 2) → all.length + ps.length ≤ 50000 → (2 * S + 4) * (all.length + ps.length) + S + 30 ≤ k →
    span_Parse.go k (ps.map mk) all = some (finS ((altsP ps).bind fun r => some (all ++ ofR r)))
  | [], all, _, hs, hx, ha, hk => by
    rw [List.map_nil, span_Parse.go, pRight_eq k all S (2 * S + 2) (by omega) (by omega) (by omega) hs hx (by rw [show 2 * S + 2 + 2 = 2 * S + 4 by omega]; simp at hk; omega)]
    simp only [Option.bind_some, altsP, ofR, List.map_nil, List.append_nil, finS]
    split <;> rfl
  | p :: ps, all, h, hs, hx, ha, hk => by
    rw [List.length_cons] at ha hk
    have hp := h p List.mem_cons_self
    have hcl := cuts_len 32 p
    have hmul : (2 * S + 4) * 1 ≤ (2 * S + 4) * (all.length + (ps.length + 1)) := Nat.mul_le_mul_left _ (by omega)
    rw [List.map_cons, span_Parse.go, if_pos (by rw [mk_size]; omega), if_pos (by omega), cutsL_mk, dl_mk]
    rw [pread_eq k S (by omega) (by omega) (cuts 32 p) [] (fun w hw => by have := cuts_le 32 p w hw; omega) (by simp; omega)]
    have hf := altP_filter (cuts 32 p)
    have hwd : (cuts 32 p).filter (fun w => !w.isEmpty) = words p := rfl
    rw [hwd] at hf
    rw [← hf]
    simp only [Option.bind_some, altsP, List.nil_append]
    cases hq : altP (words p) with
    | none => rfl
    | some a =>
      have hsz : SzP S a ∧ a.length ≤ 2 * S + 2 := by
        have gen : ∀ (ws : List (List UInt8)) (a : List Bd), altP ws = some a → (∀ w ∈ ws, w.length ≤ S) → SzP S a ∧ a.length ≤ 2 * ws.length := by
          intro ws
          induction ws with
          | nil => intro a h _; simp [altP] at h; subst h; exact ⟨fun b hb => by simp at hb, by simp⟩
          | cons w ws ih =>
            intro a h hw
            simp only [altP] at h
            obtain ⟨b, hb, h⟩ := Option.bind_eq_some_iff.1 h
            obtain ⟨c, hc, h⟩ := Option.bind_eq_some_iff.1 h
            obtain rfl := Option.some.inj h
            have h1 := wordP_len hb
            have h2 := ih c hc (fun x hx => hw x (List.mem_cons_of_mem _ hx))
            have h3 := hw w List.mem_cons_self
            refine ⟨fun x hx => (List.mem_append.1 hx).elim (fun hx => by have := h1.2 x hx; omega) (h2.1 x), by rw [List.length_append, List.length_cons]; omega⟩
        have hwl := words_len p
        have := gen (words p) a hq (fun w hw => by have := (words_mem hw).2; omega)
        exact ⟨this.1, by omega⟩
      simp only [Bool.true_eq_false, if_false, Option.bind_some]
      rw [pgo_eq k S hS ps (all ++ [ofA a]) (fun x hx => h x (List.mem_cons_of_mem _ hx))
        (fun x hx => (List.mem_append.1 hx).elim (hs x) (fun hx => by simp only [List.mem_singleton] at hx; subst hx; exact szA_ofA hsz.1))
        (fun x hm => (List.mem_append.1 hm).elim (hx x) (fun hm => by simp only [List.mem_singleton] at hm; subst hm; rw [ofA_len]; exact hsz.2))
        (by rw [List.length_append, List.length_singleton]; omega) (by rw [List.length_append, List.length_singleton, show all.length + 1 + ps.length = all.length + (ps.length + 1) by omega]; omega)]
      cases altsP ps with
      | none => rfl
      | some r => simp [ofR]
theorem pParse05_eq (k : Nat) (s : ByteArray) (hs : s.size ≤ 10000) (hk : 500000000 < k) : span_Parse.f k s = some (ofR (parseR (dl s)).1, (parseR (dl s)).2) := by
  have hl := cuts2_len (dl s)
  have h2 := dl_len s
  unfold span_Parse.f
  rw [if_pos (by omega), cutsD_eq]
  have hmul : (2 * 10000 + 4) * (0 + (cuts2 (dl s)).length) ≤ (2 * 10000 + 4) * 10001 := Nat.mul_le_mul_left _ (by omega)
  rw [pgo_eq k 10000 (by omega) (cuts2 (dl s)) [] (fun p hp => by have := cuts2_le _ p hp; omega) (fun l hl => by simp at hl) (fun x hx => by simp at hx) (by simp; omega) (by simp only [List.length_nil]; omega)]
  rw [finS_finR]; rfl
end Go.Proofs.YtijooffpjfhidaaGreatDoor.Vp
end
section
namespace Go.Proofs.YtijooffpjfhidaaGreatDoor.Vp
open Go Go.RowKit Go.Proofs.YtijooffpjfhidaaGreatDoorW.PrintWords Go.Proofs.YtijooffpjfhidaaGreatDoor.Txt Go.Proofs.YtijooffpjfhidaaGreatDoor.Trim Go.Proofs.YtijooffpjfhidaaGreatDoor.Num Go.Proofs.YtijooffpjfhidaaGreatDoor.Seq Go.Proofs.YtijooffpjfhidaaGreatDoor.G
theorem pholds_eq (k : Nat) (b : S45) (v : Ver) (hb : b.f1.f3.size ≤ 1000000) (hv : v.2.2.2.size ≤ 1000000) (hk : 10000000 < k) :
    span_holds.f k b.f0 b.f1.f0 b.f1.f1 b.f1.f2 b.f1.f3 v.1 v.2.1 v.2.2.1 v.2.2.2 = some (holdsB (toB b) v) := by
  unfold span_holds.f
  have e : version_Compare.f k v.1 v.2.1 v.2.2.1 v.2.2.2 b.f1.f0 b.f1.f1 b.f1.f2 b.f1.f3 = some (cmpT v (toB b).2) := pCompare_eq k v (toV b.f1) hv hb hk
  rw [e]; rfl
theorem pnear_eq (b : S45) (v : Ver) : span_near.f b.f0 b.f1.f0 b.f1.f1 b.f1.f2 b.f1.f3 v.1 v.2.1 v.2.2.1 v.2.2.2 = some (nearB (toB b) v) := by
  unfold span_near.f
  rw [toList_eq]
  have hn : nearB (toB b) v = (!(dl b.f1.f3).isEmpty && (decide (b.f1.f0 = v.1) && decide (b.f1.f1 = v.2.1) && decide (b.f1.f2 = v.2.2.1))) := rfl
  rw [hn]
  change (if dl b.f1.f3 = [] then _ else _) = _
  cases dl b.f1.f3 with
  | nil => rfl
  | cons c r =>
    rw [if_neg (by simp), Bool.and_assoc]; rfl
theorem pone_eq (k : Nat) (v : Ver) (hv : v.2.2.2.size ≤ 1000000) (hk : 10000000 < k) : ∀ (l : List S45) (may : Bool), SzA 1000000 l →
    span_Holds.one k v.1 v.2.1 v.2.2.1 v.2.2.2 l may = some (((toA l).all fun b => holdsB b v) && (may || (toA l).any fun b => nearB b v))
  | [], may, _ => by simp [span_Holds.one, toA]
  | b :: l, may, h => by
    rw [span_Holds.one, pholds_eq k b v (h b List.mem_cons_self) hv hk, pnear_eq, toA_cons]
    simp only [Option.bind_some, List.all_cons, List.any_cons]
    rw [pone_eq k v hv hk l _ (fun c hc => h c (List.mem_cons_of_mem _ hc))]
    cases holdsB (toB b) v <;> simp [Bool.or_assoc]
theorem pany_eq (k : Nat) (v : Ver) (hv : v.2.2.2.size ≤ 1000000) (hk : 10000000 < k) : ∀ r : List (List S45), SzR 1000000 r →
    span_Holds.any k v.1 v.2.1 v.2.2.1 v.2.2.2 r = some ((toR r).any fun l => letsA l v)
  | [], _ => rfl
  | l :: r, h => by
    rw [span_Holds.any, pone_eq k v hv hk l _ (h l List.mem_cons_self), pany_eq k v hv hk r (fun x hx => h x (List.mem_cons_of_mem _ hx)), toR_cons, List.any_cons, toList_eq]
    have : letsA (toA l) v = (((toA l).all fun b => holdsB b v) && (v.2.2.2.data.toList.isEmpty || (toA l).any fun b => nearB b v)) := rfl
    rw [this]
    simp only [Option.bind_some]
    cases (((toA l).all fun b => holdsB b v) && (v.2.2.2.data.toList.isEmpty || (toA l).any fun b => nearB b v)) <;> simp
theorem printP_ok (v : Ver) : (printP v).2 = rightB v := by
  unfold printP
  cases rightB v <;> rfl
theorem pHolds05_eq (k : Nat) (r : List (List S45)) (v : Ver) (hs : SzR 100000 r) (hx : ∀ x ∈ r, x.length ≤ 1000) (hl : r.length ≤ 1000) (hv : v.2.2.2.size ≤ 1000000) (hk : 20000000 < k) :
    span_Holds.f k r v.1 v.2.1 v.2.2.1 v.2.2.2 = some (holdsR (toR r) v) := by
  have hmul : (1000 + 2) * r.length ≤ (1000 + 2) * 1000 := Nat.mul_le_mul_left _ hl
  unfold span_Holds.f holdsR
  rw [print_eq k v (by omega) (by omega), pRight_eq k r 100000 1000 (by omega) (by omega) (by omega) hs hx (by omega), pany_eq k v hv (by omega) r (fun l hl b hb => by have := hs l hl b hb; omega)]
  simp only [Option.bind_some, printP_ok]
  cases rightB v <;> cases rightR (toR r) <;> simp
theorem signs_op (o : Int) (h1 : 1 ≤ o) (h5 : o ≤ 5) (s : ByteArray) (hs : s.size ≤ 1000000) (ws : List ByteArray) (hw : ws.length ≤ 1000000) : span_Print.sg o s span_Print.signs ws = some (ws ++ [mk (sgn o ++ dl s)]) := by
  have e : ∀ l : List UInt8, mk l ++ s = mk (l ++ dl s) := fun l => by have := mk_append l (dl s); rwa [mk_dl] at this
  have z1 : ∀ a : UInt8, (⟨#[a]⟩ : ByteArray).size = 1 := fun _ => rfl
  have z2 : ∀ a b : UInt8, (⟨#[a, b]⟩ : ByteArray).size = 2 := fun _ _ => rfl
  have c : o = 1 ∨ o = 2 ∨ o = 3 ∨ o = 4 ∨ o = 5 := by omega
  have a1 : ws.length < 8796093022208 := by omega
  have a2 : 1 + s.size ≤ 9223372036854775807 := by omega
  have a3 : 2 + s.size ≤ 9223372036854775807 := by omega
  rcases c with rfl | rfl | rfl | rfl | rfl <;>
  · simp only [span_Print.signs, span_Print.sg, z1, z2, a1, a2, a3, if_true, sgn]
    first | (simp; done) | (simp; exact e _)
theorem ppr_ok (k : Nat) (b : S45) (hb : b.f1.f3.size ≤ 100000) (hk : 1000000 < k) (ho : boundOk (toB b) = true) : version_Print.f k b.f1.f0 b.f1.f1 b.f1.f2 b.f1.f3 = some (mk (told (toV b.f1)), true) := by
  have h := print_eq k (toV b.f1) (by show b.f1.f3.size ≤ _; omega) (by show b.f1.f3.size + 10 < k; omega)
  have hr : rightB (toV b.f1) = true := by have := ho; rw [pbound_ok, Bool.and_eq_true] at this; exact this.2
  unfold printP at h
  rw [if_pos hr] at h
  exact h
theorem prow_eq (k : Nat) (hk : 1000000 < k) : ∀ (l : List S45) (ws : List ByteArray), SzA 100000 l → (toA l).all boundOk = true → ws.length + l.length ≤ 100000 →
    span_Print.row k l ws = some (ws ++ (toA l).map fun b => mk (wordB b))
  | [], ws, _, _, _ => by simp [span_Print.row, toA]
  | b :: l, ws, h, ho, hw => by
    rw [toA_cons, List.all_cons, Bool.and_eq_true] at ho
    rw [List.length_cons] at hw
    have hb := h b List.mem_cons_self
    have hbl := wordB_len ho.1
    have hwb : wordB (toB b) = sgn b.f0 ++ told (toV b.f1) := rfl
    rw [hwb, List.length_append] at hbl
    have h15 : 1 ≤ b.f0 ∧ b.f0 ≤ 5 := by have := ho.1; rw [pbound_ok, Bool.and_eq_true] at this; exact of_decide_eq_true this.1
    rw [span_Print.row, ppr_ok k b hb hk ho.1]
    simp only [Option.bind_some]
    rw [signs_op b.f0 h15.1 h15.2 _ (by rw [mk_size]; omega) ws (by omega)]
    simp only [Option.bind_some, dl_mk]
    rw [prow_eq k hk l _ (fun c hc => h c (List.mem_cons_of_mem _ hc)) ho.2 (by rw [List.length_append, List.length_singleton]; omega), toA_cons]
    simp [hwb]
theorem join_two (x y : List UInt8) (t : List (List UInt8)) (sep : List UInt8) : Lib.join (x :: y :: t) sep = x ++ sep ++ Lib.join (y :: t) sep := by
  rw [Lib.join_cons, Lib.join_cons]
  simp [Lib.joinTail]
theorem join_C (c : UInt8) : ∀ l : List (List UInt8), Lib.join l [c] = joinC c l
  | [] => Lib.join_nil _
  | [x] => Lib.join_one _ _
  | x :: y :: t => by
    rw [join_two, join_C c (y :: t), joinC_cons c x (by simp)]; simp
theorem join_D : ∀ l : List (List UInt8), Lib.join l [32, 124, 124, 32] = joinD l
  | [] => Lib.join_nil _
  | [x] => Lib.join_one _ _
  | x :: y :: t => by
    rw [join_two, join_D (y :: t), joinD_cons x (by simp)]; simp
theorem sjoin_eq (l : List (List UInt8)) (sep : List UInt8) (h1 : l.length ≤ 140737488355328) (h2 : (Lib.join l sep).length ≤ 140737488355328) : strings_Join.f (l.map mk) (mk sep) = some (mk (Lib.join l sep)) := by
  unfold strings_Join.f
  have e : (l.map mk).map (·.data.toList) = l := map_dl_mk l
  have e2 : (mk sep).data.toList = sep := rfl
  rw [List.length_map, if_pos h1, e, e2, if_pos h2]; rfl
theorem bodyA_len : ∀ (l : List S45), (toA l).all boundOk = true → (tailA (toA l)).length ≤ lenA l ∧ (bodyA (toA l)).length ≤ lenA l
  | [], _ => ⟨by simp [toA, tailA], by simp [toA, bodyA]⟩
  | b :: l, h => by
    rw [toA_cons, List.all_cons, Bool.and_eq_true] at h
    have ih := bodyA_len l h.2
    have hb := wordB_len h.1
    have hl : lenA (b :: l) = 30 + b.f1.f3.size + lenA l := by simp [lenA]
    rw [toA_cons, hl]
    simp only [tailA, bodyA, List.length_cons, List.length_append]
    omega
theorem wordA_len (l : List S45) (h : (toA l).all boundOk = true) : (wordA (toA l)).length ≤ lenA l + 1 := by
  rw [wordA_body]
  have := (bodyA_len l h).2
  split
  · simp
  · omega
theorem tailD_len : ∀ (r : List (List S45)), (toR r).all rightA = true → (tailD (toR r)).length ≤ lenR r
  | [], _ => by simp [toR, tailD]
  | l :: r, h => by
    rw [toR_cons, List.all_cons, Bool.and_eq_true, rightA_def, Bool.and_eq_true] at h
    have ih := tailD_len r h.2
    have hw := wordA_len l h.1.2
    have hl : lenR (l :: r) = 10 + lenA l + lenR r := by simp [lenR]
    rw [toR_cons, hl]
    simp only [tailD, List.length_cons, List.length_append]
    omega
theorem joinD_len (r : List (List S45)) (h : (toR r).all rightA = true) : (joinD ((toR r).map wordA)).length ≤ lenR r := by
  cases r with
  | nil => simp [toR, joinD]
  | cons l r =>
    have h' := h
    rw [toR_cons, List.all_cons, Bool.and_eq_true, rightA_def, Bool.and_eq_true] at h
    rw [toR_cons, joinD_tail, List.length_append]
    have h1 := wordA_len l h.1.2
    have h2 := tailD_len r h.2
    have hl : lenR (l :: r) = 10 + lenA l + lenR r := by simp [lenR]
    omega
theorem pgo05_eq (k : Nat) (hk : 1000000 < k) : ∀ (r : List (List S45)) (all : List ByteArray), SzR 100000 r → (toR r).all rightA = true → all.length + r.length ≤ 100000 →
    span_Print.go k r all = some (all ++ (toR r).map fun l => mk (wordA l))
  | [], all, _, _, _ => by simp [span_Print.go, toR]
  | l :: r, all, h, ho, ha => by
    rw [toR_cons, List.all_cons, Bool.and_eq_true, rightA_def, Bool.and_eq_true, toA_len] at ho
    rw [List.length_cons] at ha
    have h8 := of_decide_eq_true ho.1.1
    rw [span_Print.go, prow_eq k hk l [] (h l List.mem_cons_self) ho.1.2 (by simp; omega)]
    simp only [Option.bind_some, List.nil_append]
    have hsz : lenA l ≤ 8 * 100030 := by
      have gen : ∀ (l : List S45), SzA 100000 l → lenA l ≤ l.length * 100030 := by
        intro l
        induction l with
        | nil => intro _; simp [lenA]
        | cons b l ih =>
          intro h
          have := ih (fun c hc => h c (List.mem_cons_of_mem _ hc))
          have hb := h b List.mem_cons_self
          have hl : lenA (b :: l) = 30 + b.f1.f3.size + lenA l := by simp [lenA]
          rw [hl, List.length_cons, Nat.add_mul]; omega
      have := gen l (h l List.mem_cons_self)
      exact Nat.le_trans this (Nat.mul_le_mul_right 100030 h8)
    have hj : strings_Join.f (if ((toA l).map fun b => mk (wordB b)).length = 0 then [⟨#[42]⟩] else (toA l).map fun b => mk (wordB b)) ⟨#[32]⟩ = some (mk (wordA (toA l))) := by
      have e32 : (⟨#[32]⟩ : ByteArray) = mk [32] := rfl
      rw [List.length_map, toA_len, e32]
      cases l with
      | nil =>
        rw [if_pos (show ([] : List S45).length = 0 from rfl)]
        exact sjoin_eq [[42]] [32] (by decide) (by rw [join_C]; decide)
      | cons b l =>
        have hne : toA (b :: l) ≠ [] := by rw [toA_cons]; simp
        have e1 : ((toA (b :: l)).map fun b => mk (wordB b)) = ((toA (b :: l)).map wordB).map mk := by rw [List.map_map]; rfl
        have hb := (bodyA_len (b :: l) ho.1.2).2
        rw [if_neg (by simp), e1, sjoin_eq _ _ (by rw [List.length_map, toA_len]; omega) (by rw [join_C, joinC_body]; omega), join_C, joinC_body, wordA_body, if_neg hne]
    rw [hj]
    simp only [Option.bind_some]
    rw [if_pos (by omega), pgo05_eq k hk r _ (fun x hx => h x (List.mem_cons_of_mem _ hx)) ho.2 (by rw [List.length_append, List.length_singleton]; omega), toR_cons]
    simp
theorem lenR_le (r : List (List S45)) (S M : Nat) (hs : SzR S r) (hx : ∀ x ∈ r, x.length ≤ M) : lenR r ≤ r.length * (10 + M * (30 + S)) := by
  have gen : ∀ (l : List S45), SzA S l → lenA l ≤ l.length * (30 + S) := by
    intro l
    induction l with
    | nil => intro _; simp [lenA]
    | cons b l ih =>
      intro h
      have := ih (fun c hc => h c (List.mem_cons_of_mem _ hc))
      have hb := h b List.mem_cons_self
      have hl : lenA (b :: l) = 30 + b.f1.f3.size + lenA l := by simp [lenA]
      rw [hl, List.length_cons, Nat.add_mul]; omega
  induction r with
  | nil => simp [lenR]
  | cons l r ih =>
    have h1 := ih (fun x hx => hs x (List.mem_cons_of_mem _ hx)) (fun y hy => hx y (List.mem_cons_of_mem _ hy))
    have h2 := gen l (hs l List.mem_cons_self)
    have h3 : l.length * (30 + S) ≤ M * (30 + S) := Nat.mul_le_mul_right _ (hx l List.mem_cons_self)
    have hl : lenR (l :: r) = 10 + lenA l + lenR r := by simp [lenR]
    rw [hl, List.length_cons, Nat.add_mul]; omega
theorem pPrint05_eq (k : Nat) (r : List (List S45)) (hs : SzR 100000 r) (hx : ∀ x ∈ r, x.length ≤ 1000) (hl : r.length ≤ 1000) (hk : 20000000 < k) : span_Print.f k r = some (mk (printR (toR r)).1, (printR (toR r)).2) := by
  have hmul : (1000 + 2) * r.length ≤ (1000 + 2) * 1000 := Nat.mul_le_mul_left _ hl
  unfold span_Print.f printR
  rw [pRight_eq k r 100000 1000 (by omega) (by omega) (by omega) hs hx (by omega)]
  simp only [Option.bind_some]
  by_cases h : rightR (toR r) = true
  · have hm := rightR_mem h
    rw [toR_len] at hm
    have hall := List.all_eq_true.2 hm.2
    have hlen := lenR_le r 100000 1000 hs hx
    have hmul2 : r.length * (10 + 1000 * (30 + 100000)) ≤ 1000 * (10 + 1000 * (30 + 100000)) := Nat.mul_le_mul_right _ hl
    have hjl := joinD_len r hall
    rw [h, if_neg (by decide), if_pos rfl, pgo05_eq k (by omega) r [] hs hall (by simp; omega)]
    simp only [Option.bind_some, List.nil_append, span_Print.fin]
    have e1 : ((toR r).map fun l => mk (wordA l)) = ((toR r).map wordA).map mk := by rw [List.map_map]; rfl
    have e2 : (⟨#[32, 124, 124, 32]⟩ : ByteArray) = mk [32, 124, 124, 32] := rfl
    rw [e1, e2, sjoin_eq _ _ (by rw [List.length_map, toR_len]; omega) (by rw [join_D]; omega), join_D]
    rfl
  · rw [Bool.not_eq_true] at h
    rw [h, if_pos rfl, if_neg (by decide)]; rfl
theorem joinC_len (c : UInt8) : ∀ (ls : List (List UInt8)) (n : Nat), (∀ x ∈ ls, x.length ≤ n) → (joinC c ls).length ≤ ls.length * (n + 1)
  | [], n, _ => by simp [joinC]
  | [x], n, h => by have := h x List.mem_cons_self; simp [joinC]; omega
  | x :: y :: t, n, h => by
    have ih := joinC_len c (y :: t) n (fun z hz => h z (List.mem_cons_of_mem _ hz))
    have hx := h x List.mem_cons_self
    rw [joinC_cons c x (by simp), List.length_append, List.length_cons, List.length_cons, Nat.add_mul]; omega
theorem right_sz {v : Ver} (h : rightB v = true) : v.2.2.2.size ≤ 55 := by
  have hp := (right_nums h).2.2.2
  rw [← dl_len]
  unfold preB at hp
  rw [Bool.or_eq_true] at hp
  rcases hp with hp | hp
  · cases hd : dl v.2.2.2 with
    | nil => simp
    | cons => rw [hd] at hp; simp at hp
  · rw [Bool.and_eq_true] at hp
    have h5 := of_decide_eq_true hp.2
    have hl := joinC_len 46 (cuts 46 (dl v.2.2.2)) 10 (fun x hx => by
      have := List.all_eq_true.1 hp.1 x hx
      unfold partB at this
      simp only [Bool.and_eq_true] at this
      exact of_decide_eq_true this.1.1.2)
    rw [cuts_join] at hl
    have : (cuts 46 (dl v.2.2.2)).length * (10 + 1) ≤ 5 * (10 + 1) := Nat.mul_le_mul_right _ h5
    omega
theorem right_small {r : List (List S45)} (h : rightR (toR r) = true) : SzR 55 r ∧ (∀ x ∈ r, x.length ≤ 8) ∧ r.length ≤ 8 ∧ (wordR (toR r)).length ≤ 6000 := by
  have hm := rightR_mem h
  rw [toR_len] at hm
  have hA : ∀ l ∈ r, rightA (toA l) = true := fun l hl => hm.2 (toA l) (List.mem_map_of_mem hl)
  have h1 : SzR 55 r := fun l hl b hb => right_sz ((rightA_mem (hA l hl)).2 (toB b) (List.mem_map_of_mem hb)).2
  have h2 : ∀ x ∈ r, x.length ≤ 8 := fun x hx => by have := (rightA_mem (hA x hx)).1; rwa [toA_len] at this
  refine ⟨h1, h2, hm.1.2, ?_⟩
  have hlen := lenR_le r 55 8 h1 h2
  have hmul : r.length * (10 + 8 * (30 + 55)) ≤ 8 * (10 + 8 * (30 + 55)) := Nat.mul_le_mul_right _ hm.1.2
  have := joinD_len r (List.all_eq_true.2 hm.2)
  unfold wordR
  omega
theorem small_nil : SzR 55 ([] : List (List S45)) ∧ (∀ x ∈ ([] : List (List S45)), x.length ≤ 8) ∧ ([] : List (List S45)).length ≤ 8 := ⟨fun l hl => by simp at hl, fun l hl => by simp at hl, by simp⟩
theorem parse_small (s : List UInt8) : SzR 55 (ofR (parseR s).1) ∧ (∀ x ∈ ofR (parseR s).1, x.length ≤ 8) ∧ (ofR (parseR s).1).length ≤ 8 := by
  cases h : parseR s with
  | mk r t =>
    cases t with
    | true =>
      have := right_small (r := ofR r) (by rw [toR_ofR]; exact parseR_right h)
      exact ⟨this.1, this.2.1, this.2.2.1⟩
    | false =>
      obtain rfl := parseR_none h
      exact small_nil
theorem SzR.up {n m : Nat} {r : List (List S45)} (h : SzR n r) (hm : n ≤ m) : SzR m r := fun l hl b hb => Nat.le_trans (h l hl b hb) hm
def wordT (s : List UInt8) : List UInt8 := if (parseR s).2 = true then (if (printR (parseR s).1).2 = true then (printR (parseR s).1).1 else [110, 111, 110, 101]) else [110, 111, 110, 101]
theorem word_eq (k : Nat) (s : ByteArray) (hs : s.size ≤ 10000) (hk : 500000000 < k) : hoggetlaw05_word.f k s = some (mk (wordT (dl s))) := by
  have h := parse_small (dl s)
  unfold hoggetlaw05_word.f wordT
  rw [pParse05_eq k s hs hk]
  simp only [Option.bind_some]
  rw [pPrint05_eq k _ (h.1.up (by omega)) (fun x hx => by have := h.2.1 x hx; omega) (by omega) (by omega), toR_ofR]
  simp only [Option.bind_some]
  (repeat' split) <;> rfl
def holdsT (s t : List UInt8) : Bool := (parseR s).2 && ((parseP t).2 && holdsR (parseR s).1 (parseP t).1)
theorem holds_eq (k : Nat) (s t : ByteArray) (hs : s.size ≤ 10000) (ht : t.size ≤ 10000) (hk : 500000000 < k) : hoggetlaw05_holds.f k s t = some (holdsT (dl s) (dl t)) := by
  have h := parse_small (dl s)
  have h2 := parse_sz (dl t)
  have h3 := dl_len t
  unfold hoggetlaw05_holds.f holdsT
  rw [pParse05_eq k s hs hk, pParse_eq k t (by omega) (by omega)]
  simp only [Option.bind_some, flat5]
  rw [pHolds05_eq k _ (parseP (dl t)).1 (h.1.up (by omega)) (fun x hx => by have := h.2.1 x hx; omega) (by omega) (by omega) (by omega), toR_ofR]
  simp only [Option.bind_some]
  cases (parseR (dl s)).2 <;> cases (parseP (dl t)).2 <;> simp
theorem w1 : wordT [94, 49, 46, 50, 46, 51] = [62, 61, 49, 46, 50, 46, 51, 32, 60, 50, 46, 48, 46, 48] := by decide +kernel
theorem w2 : wordT [94, 48, 46, 50, 46, 51] = [62, 61, 48, 46, 50, 46, 51, 32, 60, 48, 46, 51, 46, 48] := by decide +kernel
theorem w3 : wordT [94, 48, 46, 48, 46, 51] = [62, 61, 48, 46, 48, 46, 51, 32, 60, 48, 46, 48, 46, 52] := by decide +kernel
theorem w4 : wordT [126, 49, 46, 50, 46, 51] = [62, 61, 49, 46, 50, 46, 51, 32, 60, 49, 46, 51, 46, 48] := by decide +kernel
theorem w5 : wordT [] = [42] := by decide +kernel
theorem w6 : wordT [49, 46, 48, 46, 48, 124, 124, 62, 50, 46, 48, 46, 48, 32, 42] = [61, 49, 46, 48, 46, 48, 32, 124, 124, 32, 62, 50, 46, 48, 46, 48] := by decide +kernel
theorem w7 : wordT [49, 46, 48] = [110, 111, 110, 101] := by decide +kernel
theorem w8 : wordT [94, 57, 57, 57, 57, 57, 57, 46, 48, 46, 48] = [110, 111, 110, 101] := by decide +kernel
theorem v1 : holdsT [94, 49, 46, 50, 46, 51] [49, 46, 50, 46, 52, 45, 97] = false := by decide +kernel
theorem v2 : holdsT [94, 49, 46, 50, 46, 51] [49, 46, 57, 46, 48] = true := by decide +kernel
theorem v3 : holdsT [62, 61, 49, 46, 50, 46, 51, 45, 97] [49, 46, 50, 46, 51, 45, 98] = true := by decide +kernel
theorem spans_eq (k : Nat) (hk : 500000001 < k) : hoggetlaw05_spans.f k = some true := by
  have W : ∀ (k : Nat) (s : ByteArray) (t : List UInt8), s.size ≤ 10000 → wordT (dl s) = t → 500000000 < k → hoggetlaw05_word.f k s = some (mk t) := fun k s t hs h hk => by rw [word_eq k s hs hk, h]
  have V : ∀ (k : Nat) (s u : ByteArray) (t : Bool), s.size ≤ 10000 → u.size ≤ 10000 → holdsT (dl s) (dl u) = t → 500000000 < k → hoggetlaw05_holds.f k s u = some t := fun k s u t hs hu h hk => by rw [holds_eq k s u hs hu hk, h]
  unfold hoggetlaw05_spans.f
  rw [W k ⟨#[94, 49, 46, 50, 46, 51]⟩ _ (by decide) w1 (by omega)]
  simp only [Option.bind_some, mk_toList, if_true]
  rw [W k ⟨#[94, 48, 46, 50, 46, 51]⟩ _ (by decide) w2 (by omega)]
  simp only [Option.bind_some, mk_toList, if_true]
  rw [W k ⟨#[94, 48, 46, 48, 46, 51]⟩ _ (by decide) w3 (by omega)]
  simp only [Option.bind_some, mk_toList, if_true]
  rw [W k ⟨#[126, 49, 46, 50, 46, 51]⟩ _ (by decide) w4 (by omega)]
  simp only [Option.bind_some, mk_toList, if_true]
  rw [W k ⟨#[]⟩ _ (by decide) w5 (by omega)]
  simp only [Option.bind_some, mk_toList, if_true]
  rw [W k ⟨#[49, 46, 48, 46, 48, 124, 124, 62, 50, 46, 48, 46, 48, 32, 42]⟩ _ (by decide) w6 (by omega)]
  simp only [Option.bind_some, mk_toList, beq_self_eq_true]
  obtain ⟨k, rfl, hk'⟩ := pred hk
  simp only [hoggetlaw05_spans.j0, if_true]
  rw [V k ⟨#[94, 49, 46, 50, 46, 51]⟩ ⟨#[49, 46, 50, 46, 52, 45, 97]⟩ _ (by decide) (by decide) v1 (by omega)]
  simp only [Option.bind_some, Bool.false_eq_true, if_false]
  rw [V k ⟨#[94, 49, 46, 50, 46, 51]⟩ ⟨#[49, 46, 57, 46, 48]⟩ _ (by decide) (by decide) v2 (by omega)]
  simp only [Option.bind_some, if_true]
  rw [V k ⟨#[62, 61, 49, 46, 50, 46, 51, 45, 97]⟩ ⟨#[49, 46, 50, 46, 51, 45, 98]⟩ _ (by decide) (by decide) v3 (by omega)]
  simp only [Option.bind_some, if_true]
  rw [W k ⟨#[49, 46, 48]⟩ _ (by decide) w7 (by omega)]
  simp only [Option.bind_some, mk_toList, if_true]
  rw [W k ⟨#[94, 57, 57, 57, 57, 57, 57, 46, 48, 46, 48]⟩ _ (by decide) w8 (by omega)]
  simp
end Go.Proofs.YtijooffpjfhidaaGreatDoor.Vp
end
section
namespace Go.Proofs.YtijooffpjfhidaaGreatDoor.Vp
open Go Go.RowKit Go.Proofs.YtijooffpjfhidaaGreatDoorW.PrintWords Go.Proofs.YtijooffpjfhidaaGreatDoor.Txt Go.Proofs.YtijooffpjfhidaaGreatDoor.Trim Go.Proofs.YtijooffpjfhidaaGreatDoor.Num Go.Proofs.YtijooffpjfhidaaGreatDoor.Seq Go.Proofs.YtijooffpjfhidaaGreatDoor.G
theorem same_self (k : Nat) (r : List (List S45)) (hl : r.length ≤ 1000) (hx : ∀ x ∈ r, x.length ≤ 1000) (hk : 2000000 < k) : hoggetref05_Same.f k r r = some true := by
  have hmul : (1000 + 2) * r.length ≤ (1000 + 2) * 1000 := Nat.mul_le_mul_left _ hl
  rw [rSame_eq k r r 1000 (by omega) (by omega) hx (by omega)]
  simp
theorem SpanTexts (a : ByteArray) (r : List (List S45)) (_ : a.size ≤ 140737488351232) : ∃ k, hoggetlaw05_SpanTexts.f k a r = some true := by
  obtain ⟨K, hK⟩ : ∃ K, K = 500000100 := ⟨_, rfl⟩
  refine ⟨K + 1, ?_⟩
  unfold hoggetlaw05_SpanTexts.f
  simp only [hoggetlaw05_SpanTexts.j0, if_true]
  by_cases h1 : (a.size : Int) > 1000
  · rw [if_pos h1]
  · rw [if_neg h1, rBig_eq _ _ (by omega)]
    simp only [Option.bind_some]
    cases hb : bigR r with
    | true => rw [if_pos rfl]
    | false =>
      obtain ⟨hl, hx, hs⟩ := bigR_false hb
      have hp := parse_small (dl a)
      have hlen := lenR_le r 300 20 hs hx
      have hmul : r.length * (10 + 20 * (30 + 300)) ≤ 20 * (10 + 20 * (30 + 300)) := Nat.mul_le_mul_right _ hl
      rw [if_neg (by decide), rOwn_eq K r (by omega) (fun x h => by have := hx x h; omega) (by omega)]
      simp only [Option.bind_some]
      rw [pParse05_eq K a (by omega) (by omega), rParse05_eq K a (by omega) (by omega), pPrint05_eq K r (hs.up (by omega)) (fun x h => by have := hx x h; omega) (by omega) (by omega), rPrint05_eq K r 300 (by omega) hs (by omega) (by omega), spans_eq K (by omega)]
      simp only [Option.bind_some, if_true]
      rw [same_self K _ (by omega) (fun x h => by have := hp.2.1 x h; omega) (by omega), same_self K r (by omega) (fun x h => by have := hx x h; omega) (by omega)]
      simp
end Go.Proofs.YtijooffpjfhidaaGreatDoor.Vp
end
section
namespace Go
variable {H : Type} {enc : TypeId × Value → H}
theorem returnsInHanded_and_shaped {a : Assume} {C : Checked} {os : Os} {f : FuncId} {fn : Func} {s : ChangeSpec} {conds : List PathCond} {apart fresh handsOn again : Bool} {X : World → Array Value → Prop}
    (hX : ∀ (w w' : World) (args : Array Value), w.heap = w'.heap → X w args → X w' args)
    (own : ownKnob C.prog.godebug = none) (started : os.Started) (noInit : C.prog.inits.idxOf? f = none) (hfn : C.prog.funcs[f]? = some fn)
    (witness : ∃ (w : World) (tape : Tape) (i : Input), w.os = os ∧ (w.forCall tape i).Shaped C.prog ∧ i.vars = [] ∧ Input.okWide C.prog (w.forCall tape i) .any w.heap.size f i ∧
      ((s.pre enc C.prog fn conds apart (w.forCall tape i).memory i.args ∧ X (w.forCall tape i).memory i.args) ∧ sizedMet enc C.prog fn (OpenSpec.ofChange s) apart (w.forCall tape i).memory i.args) ∧ a.holds C.prog (lone (Frame.enter C.prog f i.args .normal) [] (w.forCall tape i)))
    (contract : ∀ (W : World) (base : Nat) (args : Array Value) (ds gs : List (DataW H)) (before : List MemPlace),
      (∀ (j : Nat) t v, fn.params[j]? = some t → args[j]? = some v → Value.okWide C.prog W .any base t v) →
      DataW.Whole enc C.prog fn.params.toList s.vars apart W args.toList ds gs before →
      conds.all (PathCond.test C.prog ⟨fn.params.toList, ds, s.plain.varTypes C.prog, gs⟩) = true →
      (DataW.weightsEach C.prog (fn.params.toList ++ s.plain.varTypes C.prog) (ds ++ gs)).all (· ≤ reachBytes) = true → X W args → W.ShapedOpen C.prog →
      a.holds C.prog (lone (Frame.enter C.prog f args .normal) [] W) →
      Calls C.prog f args W fun e W' => ∃ v, e = .returned v ∧ s.post enc C.prog fn apart fresh handsOn again W args v W') :
    ReturnsInHanded a C os f .any (fun w args => (s.pre enc C.prog fn conds apart w args ∧ X w args) ∧ sizedMet enc C.prog fn (OpenSpec.ofChange s) apart w args) (s.post enc C.prog fn apart fresh handsOn again) := by
  refine returnsInHanded_of_calls own started noInit witness ?_
  intro w tape i _ hsh _ hok hpre hholds
  obtain ⟨_, _, _, fn', hfn', _, _, _, _, hval⟩ := hok
  have e : fn' = fn := Option.some.inj (hfn'.symm.trans hfn)
  subst e
  obtain ⟨⟨⟨ds, gs, before, hw, hc⟩, hx⟩, hz⟩ := hpre
  have hw' := DataW.Whole.of_heap (w' := w.forCall tape i) (by rfl) hw
  refine (contract (w.forCall tape i) w.heap.size i.args ds gs before hval hw' hc (hz.weights hw) (hX _ _ _ (by rfl) hx) hsh hholds).mono fun e W' ⟨v, he, hp⟩ => ?_
  subst he
  exact ChangeSpec.post_blind hp
end Go
namespace Go.Proofs.YtijooffpjfhidaaGreatDoor
open Go Go.RowKit
theorem pow_tab : (Rows.laid_internal_strconv_uint64pow10 : DataW Unit) = Lib.tabData .u64 Lib.pow10Tab := by kernel_rfl
theorem text_of {s : ByteArray} {l : List UInt8} (h : s.data.toList = l) : s = ⟨⟨l⟩⟩ := by
  subst h
  cases s with | mk d => cases d; rfl
set_option maxRecDepth 100000 in
theorem sign_of {enc : TypeId × Value → Unit} {W : World} {base : Nat} {sp : Nat → Bool} {held : Bool} {fuel : Nat} {cs : List Value} {x : DataW Unit × List MemPlace} {n : Int} {l : List UInt8}
    (h : DataW.trod enc Tryz.prog W base sp held fuel 57 cs = some x) (hx : x.1 = .agg [.lit (.int .i64 n), .lit (.string l)]) : cs = [.int .i64 n, .string ⟨⟨l⟩⟩] := by
  obtain ⟨xs, m, _, rfl, hl, hz, hf⟩ := DataW.trod_struct Tryz.underlying57 h
  rw [show Tryz.prog.cellsOf 57 = 2 by kernel_rfl] at hl
  match cs, hl, xs, hz with
  | [c0, c1], _, [y0, y1], _ =>
    have ci : Tryz.prog.cellsOf 43 = 1 := by kernel_rfl
    have cs : Tryz.prog.cellsOf 9 = 1 := by kernel_rfl
    have k0 : DataW.trod enc Tryz.prog W base sp held m 43 [c0] = some y0 := by simpa [ci] using hf 0 _ rfl
    have k1 : DataW.trod enc Tryz.prog W base sp held m 9 [c1] = some y1 := by simpa [cs] using hf 1 _ rfl
    obtain ⟨n0, e0, rfl, _⟩ := DataW.trod_int Tryz.underlying43 k0
    obtain ⟨s1, e1, rfl, _⟩ := DataW.trod_string Tryz.underlying9 k1
    simp only [List.map_cons, List.map_nil, DataW.agg.injEq, List.cons.injEq, DataW.lit.injEq, Lit.int.injEq, Lit.string.injEq, and_true, true_and] at hx e0 e1
    obtain ⟨rfl, hx⟩ := hx
    rw [e0, e1, text_of hx]
set_option maxRecDepth 100000 in
theorem signs_of {enc : TypeId × Value → Unit} {W : World} {base : Nat} {sp : Nat → Bool} {held : Bool} {fuel : Nat} {cs : List Value} {p : List MemPlace}
    (h : DataW.trod enc Tryz.prog W base sp held fuel 58 cs = some (Rows.laid_hogget_span_signs, p)) :
    cs = [.int .i64 3, .string ⟨#[60, 61]⟩, .int .i64 5, .string ⟨#[62, 61]⟩, .int .i64 2, .string ⟨#[60]⟩, .int .i64 4, .string ⟨#[62]⟩, .int .i64 1, .string ⟨#[61]⟩] := by
  obtain ⟨xs, m, _, hx, hl, hz, hf⟩ := DataW.trod_array Tryz.underlying58 h
  rw [show Tryz.prog.cellsOf 58 = 10 by kernel_rfl] at hl
  have hx1 := (Prod.mk.inj hx).1
  unfold Rows.laid_hogget_span_signs at hx1
  have c2 : Tryz.prog.cellsOf 57 = 2 := by kernel_rfl
  match xs, hz with
  | [y0, y1, y2, y3, y4], _ =>
    simp only [List.map_cons, List.map_nil, DataW.agg.injEq, List.cons.injEq, and_true] at hx1
    obtain ⟨e0, e1, e2, e3, e4⟩ := hx1
    have f0 := sign_of (by simpa [c2] using hf 0 (by omega)) e0.symm
    have f1 := sign_of (by simpa [c2] using hf 1 (by omega)) e1.symm
    have f2 := sign_of (by simpa [c2] using hf 2 (by omega)) e2.symm
    have f3 := sign_of (by simpa [c2] using hf 3 (by omega)) e3.symm
    have f4 := sign_of (by simpa [c2] using hf 4 (by omega)) e4.symm
    match cs, hl with
    | [a0, a1, a2, a3, a4, a5, a6, a7, a8, a9], _ =>
      simp only [List.drop_zero, List.drop_succ_cons, List.take_succ_cons, List.take_zero, List.cons.injEq, and_true] at f0 f1 f2 f3 f4
      obtain ⟨rfl, rfl⟩ := f0
      obtain ⟨rfl, rfl⟩ := f1
      obtain ⟨rfl, rfl⟩ := f2
      obtain ⟨rfl, rfl⟩ := f3
      obtain ⟨rfl, rfl⟩ := f4
      rfl
theorem LD_of {l : List (String × DataW Unit)} {W : World} (h : laidMetH Tryz.prog l W) (hsh : W.ShapedOpen Tryz.prog) (hn : (l.all fun x => x.2.handleName?.isNone) = true)
    (h1 : ("internal/strconv.uint64pow10", Rows.laid_internal_strconv_uint64pow10) ∈ l) (h2 : ("strconv.ErrSyntax", Rows.laid_strconv_ErrSyntax) ∈ l) (h3 : ("strconv.ErrRange", Rows.laid_strconv_ErrRange) ∈ l) (h4 : ("hogget/span.signs", Rows.laid_hogget_span_signs) ∈ l) : LD W := by
  rw [MakeChecks.laidMetH_plain _ _ _ hn] at h
  refine ⟨?_, ?_, ?_, ?_, ?_⟩
  · obtain ⟨g, t, cs, fuel, p, hg, ht, hv, hd⟩ := Lib.laidMet.reads h h1
    obtain rfl := Option.some.inj ((show Tryz.prog.globalNamed "internal/strconv.uint64pow10" = some 4 by kernel_rfl).symm.trans hg)
    obtain rfl := Option.some.inj ((show (Tryz.prog.globals[4]?).map (·.type) = some 137 by kernel_rfl).symm.trans ht)
    rw [pow_tab] at hd
    unfold Lib.TabIs
    rw [hv, ← Lib.cells_of_tab Tryz.underlying137 Tryz.underlying115 (by kernel_rfl) (by kernel_rfl) hd]
  · obtain ⟨g, t, cs, fuel, p, hg, ht, hv, hd⟩ := Lib.laidMet.reads h h2
    obtain rfl := Option.some.inj ((show Tryz.prog.globalNamed "strconv.ErrSyntax" = some 5 by kernel_rfl).symm.trans hg)
    obtain rfl := Option.some.inj ((show (Tryz.prog.globals[5]?).map (·.type) = some 81 by kernel_rfl).symm.trans ht)
    obtain ⟨_, u, v, hcs, _⟩ := iface_of_trod Tryz.underlying81 hd
    exact ⟨u, v, by rw [hv]; exact congrArg some (Array.toList_inj.1 hcs)⟩
  · obtain ⟨g, t, cs, fuel, p, hg, ht, hv, hd⟩ := Lib.laidMet.reads h h3
    obtain rfl := Option.some.inj ((show Tryz.prog.globalNamed "strconv.ErrRange" = some 6 by kernel_rfl).symm.trans hg)
    obtain rfl := Option.some.inj ((show (Tryz.prog.globals[6]?).map (·.type) = some 81 by kernel_rfl).symm.trans ht)
    obtain ⟨_, u, v, hcs, _⟩ := iface_of_trod Tryz.underlying81 hd
    exact ⟨u, v, by rw [hv]; exact congrArg some (Array.toList_inj.1 hcs)⟩
  · exact cell_of_shapedOpen_int (g := 3) (t := 3) hsh (of_decide_eq_true (by kernel_rfl)) (zero := #[.int .i64 0]) (by kernel_rfl) rfl (by kernel_rfl) (by kernel_rfl) Tryz.underlying3
  · obtain ⟨g, t, cs, fuel, p, hg, ht, hv, hd⟩ := Lib.laidMet.reads h h4
    obtain rfl := Option.some.inj ((show Tryz.prog.globalNamed "hogget/span.signs" = some 0 by kernel_rfl).symm.trans hg)
    obtain rfl := Option.some.inj ((show (Tryz.prog.globals[0]?).map (·.type) = some 58 by kernel_rfl).symm.trans ht)
    have hcs := signs_of hd
    exact hv.trans (congrArg some (Array.toList_inj.1 hcs))
end Go.Proofs.YtijooffpjfhidaaGreatDoor
end
section
namespace Go.Proofs.YtijooffpjfhidaaGreatDoor.Row
open Go Go.ChangeShapes Go.WideShapes Go.RowKit Go.Proofs.YtijooffpjfhidaaGreatDoorW.PrintWords
def Op {α : Type} (P : Program) (t : TypeId) (d : Kd α) : Prop :=
  P.cellsOf t = d.sz ∧ ∀ {H : Type} {enc : TypeId × Value → H} {W : World} {base : Nat} {sp : Nat → Bool} {held : Bool} {fuel : Nat} {cs : List Value} {x : DataW H × List MemPlace}, DataW.trod enc P W base sp held fuel t cs = some x → ∃ a : α, d.K W a cs
variable {P : Program}
theorem op_slice {α : Type} {t e : TypeId} {d : Kd α} (ht : P.underlying t = some (.slice e)) (hc : P.cellsOf t = 1) (hd : Op P e d) : Op P t (Kd.slice e d) := ⟨hc, fun {H enc W base sp held fuel cs x} h => by
  rcases DataW.trod_slice ht h with ⟨rfl, _⟩ | ⟨a, len, cap, elems, rest, n, _, rfl, rfl, hb, hl, hm, hlen, hel, hsp, hns⟩
  · exact ⟨[], none, 0, rfl, Nat.le_refl _, Kd.C_nil _ _⟩
  · have each : ∀ i, i < len → ∃ (y : α) (c : List Value), d.K W y c ∧ c.length = d.sz ∧ ∀ j u, c[j]? = some u → W.cell? (a.add (i * d.sz + j)) = some u := fun i hi => by
      have h1 := hel i hi
      rw [List.getElem?_eq_getElem (by omega), Option.bind_eq_some_iff] at h1
      obtain ⟨c, hcs, hc2⟩ := h1
      obtain ⟨y, hy⟩ := hd.2 hc2
      have h3 := World.cells?_some hcs
      refine ⟨y, c, hy, by rw [h3.2.1, hd.1], fun j u hu => ?_⟩
      have hj := (List.getElem?_eq_some_iff.1 hu).1
      have := h3.2.2 j (by omega)
      rw [Addr.add_add, hd.1] at this
      rw [this, hu]
    refine ⟨(List.range len).attach.map fun i => (each i.1 (List.mem_range.1 i.2)).choose, some a, cap, ?_, ?_, ?_⟩
    · simp
    · simpa using hl
    · have hml : maxLen = 9223372036854775807 := rfl
      refine ⟨rfl, by simp; omega, fun _ => ⟨a, rfl, fun j p hj => ?_⟩⟩
      rw [List.getElem?_map] at hj
      obtain ⟨i, hi, rfl⟩ := Option.map_eq_some_iff.1 hj
      have hij : i.1 = j := by
        have h1 := (List.getElem?_eq_some_iff.1 hi)
        obtain ⟨hlt, h2⟩ := h1
        rw [← h2]
        simp
      obtain ⟨c, h1, h2, h3⟩ := (each i.1 (List.mem_range.1 i.2)).choose_spec
      exact ⟨c, h2, h1, by rw [← hij]; exact h3⟩⟩
theorem op_fields {H : Type} {enc : TypeId × Value → H} {W : World} {base : Nat} {sp : Nat → Bool} {held : Bool} {fuel : Nat} {t : TypeId} {fs : Array Field} {cs : List Value} {x : DataW H × List MemPlace} (ht : P.underlying t = some (.struct fs)) (h : DataW.trod enc P W base sp held fuel t cs = some x) :
    cs.length = P.cellsOf t ∧ ∃ m, ∀ (i : Nat) (f : Field), fs[i]? = some f → ∃ y, DataW.trod enc P W base sp held m f.type ((cs.drop f.offset).take (P.cellsOf f.type)) = some y := by
  obtain ⟨xs, n, _, _, hl, hx, hf⟩ := DataW.trod_struct ht h
  refine ⟨hl, n, fun i f hi => ?_⟩
  have h1 := (Array.getElem?_eq_some_iff.1 hi).1
  exact ⟨_, (hf i f hi).trans (List.getElem?_eq_getElem (by omega))⟩
end Go.Proofs.YtijooffpjfhidaaGreatDoor.Row
end
section
namespace Go.Proofs.YtijooffpjfhidaaGreatDoor.Row
open Go Go.ChangeShapes Go.WideShapes Go.RowKit Go.Proofs.YtijooffpjfhidaaGreatDoorW.PrintWords Go.Proofs.YtijooffpjfhidaaGreatDoor.G
set_option maxRecDepth 100000 in
theorem op_ver : Op Tryz.prog 35 k35 := ⟨by kernel_rfl, fun {H enc W base sp held fuel cs x} h => by
  obtain ⟨hl, m, hf⟩ := op_fields Tryz.underlying35 h
  rw [show Tryz.prog.cellsOf 35 = 4 by kernel_rfl] at hl
  match cs, hl with
  | [c0, c1, c2, c3], _ =>
    obtain ⟨y0, h0⟩ := hf 0 _ rfl
    obtain ⟨y1, h1⟩ := hf 1 _ rfl
    obtain ⟨y2, h2⟩ := hf 2 _ rfl
    obtain ⟨y3, h3⟩ := hf 3 _ rfl
    have ci : Tryz.prog.cellsOf 3 = 1 := by kernel_rfl
    have cs : Tryz.prog.cellsOf 9 = 1 := by kernel_rfl
    have k0 : DataW.trod enc Tryz.prog W base sp held m 3 [c0] = some y0 := by simpa [ci] using h0
    have k1 : DataW.trod enc Tryz.prog W base sp held m 3 [c1] = some y1 := by simpa [ci] using h1
    have k2 : DataW.trod enc Tryz.prog W base sp held m 3 [c2] = some y2 := by simpa [ci] using h2
    have k3 : DataW.trod enc Tryz.prog W base sp held m 9 [c3] = some y3 := by simpa [cs] using h3
    obtain ⟨n0, e0, _⟩ := DataW.trod_int Tryz.underlying3 k0
    obtain ⟨n1, e1, _⟩ := DataW.trod_int Tryz.underlying3 k1
    obtain ⟨n2, e2, _⟩ := DataW.trod_int Tryz.underlying3 k2
    obtain ⟨n3, e3, _⟩ := DataW.trod_string Tryz.underlying9 k3
    simp only [List.cons.injEq, and_true] at e0 e1 e2 e3
    subst e0 e1 e2 e3
    exact ⟨⟨n0, n1, n2, n3⟩, k35_mk _ _⟩⟩
set_option maxRecDepth 100000 in
theorem op_bound : Op Tryz.prog 45 k45 := ⟨by kernel_rfl, fun {H enc W base sp held fuel cs x} h => by
  obtain ⟨hl, m, hf⟩ := op_fields Tryz.underlying45 h
  rw [show Tryz.prog.cellsOf 45 = 5 by kernel_rfl] at hl
  match cs, hl with
  | [c0, c1, c2, c3, c4], _ =>
    obtain ⟨y0, h0⟩ := hf 0 _ rfl
    obtain ⟨y1, h1⟩ := hf 1 _ rfl
    have ci : Tryz.prog.cellsOf 43 = 1 := by kernel_rfl
    have cs : Tryz.prog.cellsOf 35 = 4 := by kernel_rfl
    have k0 : DataW.trod enc Tryz.prog W base sp held m 43 [c0] = some y0 := by simpa [ci] using h0
    have k1 : DataW.trod enc Tryz.prog W base sp held m 35 [c1, c2, c3, c4] = some y1 := by simpa [cs] using h1
    obtain ⟨n0, e0, _⟩ := DataW.trod_int Tryz.underlying43 k0
    obtain ⟨v, hv⟩ := op_ver.2 k1
    simp only [List.cons.injEq, and_true] at e0
    subst e0
    exact ⟨⟨n0, v⟩, [_], _, rfl, rfl, hv⟩⟩
theorem array1 {α : Type} {cs : Array α} (h : cs.size = 1) : ∃ c0, cs = #[c0] := by
  obtain ⟨l⟩ := cs
  match l, h with
  | [c0], _ => exact ⟨c0, rfl⟩
set_option maxRecDepth 100000 in
theorem op_ran : Op Tryz.prog 22 (Kd.slice 38 (Kd.slice 45 k45)) := op_slice Tryz.underlying22 (by kernel_rfl) (op_slice Tryz.underlying38 (by kernel_rfl) op_bound)
set_option maxRecDepth 100000 in
theorem open_ran {H : Type} {enc : TypeId × Value → H} {W : World} {base b0 : Nat} {sp : Nat → Bool} {held : Bool} {r : Reach} {v : Value} {d : DataW H} {p : List MemPlace}
    (hv : Value.okWide Tryz.prog W r b0 24 v) (h : DataW.Trod enc Tryz.prog W base sp held 24 v d p) :
    ∃ (A : Option Addr) (c : Nat) (l : List (List S45)), v = .agg #[.slice A l.length c] ∧ l.length ≤ c ∧ Kd.C (Kd.slice 45 k45) W A l.length l := by
  obtain ⟨cs, rfl, hsz⟩ := okWide_struct Tryz.underlying24 hv
  obtain ⟨c0, rfl⟩ := array1 (hsz.trans (by kernel_rfl))
  obtain ⟨fuel, hf⟩ := h
  obtain ⟨_, m, hf⟩ := op_fields Tryz.underlying24 hf
  obtain ⟨y0, h0⟩ := hf 0 _ rfl
  have ci : Tryz.prog.cellsOf 22 = 1 := by kernel_rfl
  have h0' : DataW.trod enc Tryz.prog W base sp held m 22 [c0] = some y0 := by simpa [Value.cells, ci] using h0
  obtain ⟨l, A, c, e, hl, hC⟩ := op_ran.2 h0'
  simp only [List.cons.injEq, and_true] at e
  subst e
  exact ⟨A, c, l, rfl, hl, hC⟩
end Go.Proofs.YtijooffpjfhidaaGreatDoor.Row
end
