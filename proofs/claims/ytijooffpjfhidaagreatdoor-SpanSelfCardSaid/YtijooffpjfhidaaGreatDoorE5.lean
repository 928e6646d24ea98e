/- Texts that the claims' laws stand on, put together by a program of this session (wip/prune.py): printed functions, their walks, and plain lemmas. -/
import Derived.Test.YtijooffpjfhidaaGreatDoorRows
import Derived.Lib.LaidU8
import Derived.MakeChecks
import Derived.LaidMore
import Derived.OpenShut
import Derived.Handed
import Derived.HandedShaped
import Derived.Shelf.Vars
import Derived.Lib.SmallJoins
import Derived.WalkKit
import Derived.ProofKit
import Derived.ShutString
import Derived.ChangeOld
import Derived.SizedLaws
import Derived.Test.YtijooffpjfhidaaGreatDoorE4
set_option linter.unusedVariables false
set_option linter.unusedSimpArgs false
section
namespace Go.Proofs.YtijooffpjfhidaaGreatDoor.Vp
open Go Go.RowKit Go.Proofs.YtijooffpjfhidaaGreatDoorW.PrintWords Go.Proofs.YtijooffpjfhidaaGreatDoor.Txt Go.Proofs.YtijooffpjfhidaaGreatDoor.Trim Go.Proofs.YtijooffpjfhidaaGreatDoor.Num Go.Proofs.YtijooffpjfhidaaGreatDoor.Seq Go.Proofs.YtijooffpjfhidaaGreatDoor.G Go.Proofs.YtijooffpjfhidaaGreatDoor.Cut
theorem count_cuts (c : UInt8) : ∀ l : List UInt8, (cuts c l).length = Lib.countByte l c + 1
  | [] => rfl
  | x :: r => by
    have ih := count_cuts c r
    unfold Lib.countByte at ih ⊢
    rw [cuts_cons, List.count_cons]
    by_cases h : x = c
    · rw [if_pos h, if_pos (by simpa using h), List.length_cons, ih]
    · rw [if_neg h, if_neg (by simpa using h), List.length_cons, List.length_tail, ih]; omega
theorem idx_eq (s : ByteArray) : strings_Index.f s ⟨#[46]⟩ = some (Lib.indexByte (dl s) 46) := by
  unfold strings_Index.f
  exact if_pos rfl
theorem cnt_eq (s : ByteArray) : strings_Count.f s ⟨#[46]⟩ = some ((Lib.countByte (dl s) 46 : Nat) : Int) := by
  unfold strings_Count.f
  exact if_pos rfl
theorem scut_eq (s : ByteArray) (hs : s.size ≤ 9223372036854775807) : strings_Cut.f s ⟨#[45]⟩ = some (Cut.cutB s 45) := by
  unfold strings_Cut.f
  exact (if_pos rfl).trans (if_pos hs)
theorem wrapN (q : Nat) (h : q ≤ 4294967290) : wrap64 ((q : Int) + 1) = ((q + 1 : Nat) : Int) := by rw [wrapS (by omega) (by omega)]; omega
theorem set_take {α : Type} (L : List α) (i : Nat) (x : α) (h : i < L.length) : (L.set i x).take (i + 1) = L.take i ++ [x] := by
  rw [List.take_add_one, List.take_set_of_le (Nat.le_refl i), List.getElem?_set_self h]
  rfl
theorem split_step (k q i n : Nat) (t x1 x2 : ByteArray) (L : List ByteArray) (hidx : Lib.indexByte (dl t) 46 = (q : Int)) (h1 : t.extract 0 q = x1) (h2 : t.extract (q + 1) t.size = x2) (hq : q < t.size) (hs : t.size ≤ 2147483647) (hi : i < n) (hL : i < L.length) (hn : i ≤ 2147483647) :
    strings_genSplit.l0 (k + 1) t ⟨#[46]⟩ 0 (n : Int) L (i : Int) = strings_genSplit.l0 k x2 ⟨#[46]⟩ 0 (n : Int) (L.set i x1) ((i + 1 : Nat) : Int) := by
  have w0 : wrap64 ((q : Int) + 0) = q := by rw [Int.add_zero]; exact wrapS (by omega) (by omega)
  have w1 := wrapN q (by omega)
  have w2 := wrapN i (by omega)
  have c1 : (i : Int) < (n : Int) := by omega
  have c2 : ¬ (q : Int) < 0 := by omega
  have c3 : 0 ≤ (q : Int) := by omega
  have c4 : (q : Int) ≤ t.size := by omega
  have c5 : 0 ≤ (i : Int) := by omega
  have c6 : (i : Int) < (L.length : Int) := by omega
  have c7 : 0 ≤ ((q + 1 : Nat) : Int) := by omega
  have c8 : ((q + 1 : Nat) : Int) ≤ t.size := by omega
  have e1 : (q : Int).toNat = q := by omega
  have e2 : ((q + 1 : Nat) : Int).toNat = q + 1 := by omega
  have e3 : (i : Int).toNat = i := by omega
  simp only [strings_genSplit.l0]
  rw [if_pos c1, idx_eq, hidx, Option.bind_some, if_neg c2, w0, if_pos c3, if_pos c4, if_pos c5, if_pos c6, show (((⟨#[46]⟩ : ByteArray).size : Nat) : Int) = 1 from rfl, w1, if_pos c7, if_pos c8, w2, e1, e2, e3, h1, h2]
theorem split_loop : ∀ (j k : Nat) (t : ByteArray) (L : List ByteArray) (i : Nat), (cuts 46 (dl t)).length = j + 1 → L.length = i + j + 1 → i + j ≤ 2147483647 → t.size ≤ 2147483647 → j < k →
    strings_genSplit.l0 k t ⟨#[46]⟩ 0 ((i + j : Nat) : Int) L (i : Int) = some (L.take i ++ (cuts 46 (dl t)).map mk)
  | 0, k, t, L, i, hc, hL, hb, hs, hk => by
    obtain ⟨k, rfl, hk'⟩ := pred hk
    have hw : wrap64 ((i : Int) + 1) = i + 1 := wrapS (by omega) (by omega)
    simp only [strings_genSplit.l0]
    rw [if_neg (by omega), if_pos (by omega), if_pos (by omega), hw, if_pos (by omega), if_pos (by omega)]
    have e1 : (i : Int).toNat = i := by omega
    have e2 : ((i : Int) + 1).toNat = i + 1 := by omega
    rw [e1, e2, set_take _ _ _ (by omega)]
    have hcc := cuts_cut 46 (dl t)
    have hb2 := cutL_back 46 (dl t)
    cases hm : (cutL 46 (dl t)).2.2 with
    | true =>
      rw [hm, if_pos rfl] at hcc
      rw [hcc, List.length_cons] at hc
      have := List.length_pos_iff.2 (cuts_ne 46 (cutL 46 (dl t)).2.1)
      omega
    | false =>
      rw [hm, if_neg (by decide)] at hcc
      rw [hcc, (hb2.2 hm).1]
      simp [mk_dl]
  | j + 1, k, t, L, i, hc, hL, hb, hs, hk => by
    obtain ⟨k, rfl, hk'⟩ := pred hk
    have hcc := cuts_cut 46 (dl t)
    have hidx := cutL_index 46 (dl t)
    have hcb : Cut.cutB t 46 = (mk (cutL 46 (dl t)).1, mk (cutL 46 (dl t)).2.1, (cutL 46 (dl t)).2.2) := cutB_eq t 46
    have hlt := Cut.indexByte_lt t.data.toList 46
    rw [len] at hlt
    cases hm : (cutL 46 (dl t)).2.2 with
    | false =>
      rw [hm, if_neg (by decide)] at hcc
      rw [hcc] at hc
      simp at hc
    | true =>
      rw [hm, if_pos rfl] at hcc
      have hge : 0 ≤ Lib.indexByte (dl t) 46 := by
        apply Classical.byContradiction
        intro hn
        rw [if_neg hn] at hidx
        rw [hidx] at hm
        cases hm
      unfold Cut.cutB at hcb
      rw [if_pos (show 0 ≤ Lib.indexByte t.data.toList 46 from hge)] at hcb
      have h1 := (Prod.mk.inj hcb).1
      have h2 := (Prod.mk.inj (Prod.mk.inj hcb).2).1
      have hlt2 := cutL_lt 46 (dl t) hm
      rw [dl_len] at hlt2
      obtain ⟨q, hq⟩ := Int.eq_ofNat_of_zero_le hge
      have hq' : Lib.indexByte t.data.toList 46 = (q : Int) := hq
      rw [hq'] at h1 h2 hlt
      rw [Int.toNat_natCast] at h1 h2
      have hc2 : (cuts 46 (cutL 46 (dl t)).2.1).length = j + 1 := by rw [hcc, List.length_cons] at hc; omega
      have hsz : (mk (cutL 46 (dl t)).2.1).size ≤ 2147483647 := by rw [mk_size]; omega
      have hst := split_step k q i (i + (j + 1)) t _ _ L hq h1 h2 (Int.ofNat_lt.1 hlt) hs (by omega) (by omega) (by omega)
      have ih := split_loop j k (mk (cutL 46 (dl t)).2.1) (L.set i (mk (cutL 46 (dl t)).1)) (i + 1) hc2 (by rw [List.length_set]; omega) (by omega) hsz (by omega)
      rw [show i + 1 + j = i + (j + 1) by omega] at ih
      rw [hst]
      rw [ih, set_take _ _ _ (by omega), hcc]
      simp [dl_mk]
theorem split_eq (k : Nat) (s : ByteArray) (hs : s.size ≤ 2147483640) (hk : s.size + 10 < k) : strings_Split.f k s ⟨#[46]⟩ = some ((cuts 46 (dl s)).map mk) := by
  have hcnt := count_cuts 46 (dl s)
  have hlen := cuts_len 46 (dl s)
  rw [dl_len] at hlen
  unfold strings_Split.f strings_genSplit.f
  rw [if_neg (by decide), toList_eq, if_neg (by decide), if_pos (by decide)]
  rw [cnt_eq]
  simp only [Option.bind_some]
  change ((strings_genSplit.j0 k s ⟨#[46]⟩ 0 (wrap64 ((Lib.countByte (dl s) 46 : Nat) + 1))).bind _) = _
  obtain ⟨n, hn⟩ : ∃ n, (cuts 46 (dl s)).length = n + 1 := ⟨(cuts 46 (dl s)).length - 1, by have := List.length_pos_iff.2 (cuts_ne 46 (dl s)); omega⟩
  have e1 : wrap64 (((Lib.countByte (dl s) 46 : Nat) : Int) + 1) = ((n + 1 : Nat) : Int) := by rw [wrapS (by omega) (by omega)]; omega
  obtain ⟨k, rfl, hk'⟩ := pred hk
  simp only [strings_genSplit.j0]
  have e2 : wrap64 ((s.size : Int) + 1) = s.size + 1 := wrapS (by omega) (by omega)
  have e3 : mn ((n + 1 : Nat) : Int) ((s.size : Int) + 1) = ((n + 1 : Nat) : Int) := by unfold mn; rw [if_neg (by omega)]
  have e4 : wrap64 (((n + 1 : Nat) : Int) - 1) = ((0 + n : Nat) : Int) := by rw [wrapS (by omega) (by omega)]; omega
  rw [e1, e2, e3, e4, if_pos (by omega), if_pos (by omega)]
  have e5 : (((n + 1 : Nat) : Int)).toNat = n + 1 := by omega
  rw [e5]
  have := split_loop n k s (List.replicate (n + 1) (⟨#[]⟩ : ByteArray)) 0 hn (by simp) (by omega) (by omega) (by omega)
  rw [show ((0 : Nat) : Int) = 0 from rfl] at this
  rw [this]
  simp
theorem or32 : ∀ d : Fin 256, (Go.bits .or .u8 (d.val : Int) 32 ≥ 97 ∧ Go.bits .or .u8 (d.val : Int) 32 ≤ 122) ↔ ((97 ≤ d.val ∧ d.val ≤ 122) ∨ (65 ≤ d.val ∧ d.val ≤ 90)) := by decide +kernel
theorem ppart_step (k : Nat) {s : ByteArray} {i : Int} {c : UInt8} {r : List UInt8} (h : At s i (c :: r)) (hs : s.size ≤ 4611686018427387904) :
    version_part.l0 (k + 1) s s.size i = if letter c = true then version_part.l0 k s s.size (i + 1) else some false := by
  simp only [version_part.l0]
  rw [if_pos h.lt, if_pos h.ge, if_pos h.lt, h.byte, h.wrap hs]
  generalize version_part.l0 k s s.size (i + 1) = X
  have ho := or32 ⟨c.toNat, UInt8.toNat_lt c⟩
  simp only at ho
  have hl : letter c = decide ((97 ≤ (c.toNat : Int) ∧ (c.toNat : Int) ≤ 122) ∨ (65 ≤ (c.toNat : Int) ∧ (c.toNat : Int) ≤ 90) ∨ (48 ≤ (c.toNat : Int) ∧ (c.toNat : Int) ≤ 57) ∨ (c.toNat : Int) = 45) := by
    unfold letter; rw [decide_eq_decide]; omega
  rw [hl]
  clear hl h
  generalize Go.bits .or .u8 (c.toNat : Int) 32 = o at *
  have ho' : (o ≥ 97 ∧ o ≤ 122) ↔ ((97 ≤ (c.toNat : Int) ∧ (c.toNat : Int) ≤ 122) ∨ (65 ≤ (c.toNat : Int) ∧ (c.toNat : Int) ≤ 90)) := by rw [ho]; omega
  clear ho
  generalize (c.toNat : Int) = d at *
  by_cases hL : (97 ≤ d ∧ d ≤ 122) ∨ (65 ≤ d ∧ d ≤ 90) ∨ (48 ≤ d ∧ d ≤ 57) ∨ d = 45
  · simp only [decide_eq_true hL, if_true]
    repeat' split
    all_goals first | rfl | (exfalso; omega)
  · simp only [decide_eq_false hL, Bool.false_eq_true, if_false]
    repeat' split
    all_goals first | rfl | (exfalso; omega)
theorem number_eq (s : ByteArray) (hs : s.size ≤ 281474976710656) : version_number.f s = some (valA (dl s), plainB (dl s), okB (dl s)) := if_pos hs
theorem plain_ok (l : List UInt8) : (plainB l == okB l) = (!plainB l || okB l) := by
  cases hp : plainB l
  · have : okB l = false := by unfold okB; rw [hp]; rfl
    rw [this]; rfl
  · cases okB l <;> rfl
theorem ppart_loop : ∀ (r : List UInt8) (k : Nat) (s : ByteArray) (i : Int), At s i r → s.size ≤ 281474976710656 → r.length < k →
    version_part.l0 k s s.size i = some (r.all letter && (!(dl s).isEmpty && decide (s.size ≤ 10) && (!plainB (dl s) || okB (dl s))))
  | [], k, s, i, h, hs, hk => by
    obtain ⟨k, rfl, hk'⟩ := pred hk
    simp only [version_part.l0]
    rw [if_neg h.not_lt, number_eq s hs]
    simp only [Option.bind_some, toList_eq, plain_ok]
    change (if dl s = [] then _ else _) = _
    by_cases he : dl s = []
    · rw [if_pos he, he]; rfl
    · rw [if_neg he]
      have : (dl s).isEmpty = false := by cases hd : dl s with
        | nil => exact absurd hd he
        | cons => rfl
      rw [this]
      by_cases h10 : s.size ≤ 10
      · rw [if_pos (by omega), decide_eq_true h10]; rfl
      · rw [if_neg (by omega), decide_eq_false h10]; rfl
  | c :: r, k, s, i, h, hs, hk => by
    obtain ⟨k, rfl, hk'⟩ := pred hk
    rw [ppart_step k h (by omega), List.all_cons]
    cases letter c
    · simp
    · rw [if_pos rfl, ppart_loop r k s (i + 1) h.next hs (by simp at hk'; omega)]; rfl
theorem part_eq (k : Nat) (s : ByteArray) (hs : s.size ≤ 281474976710656) (hk : s.size < k) : version_part.f k s = some (partB (dl s)) := by
  unfold version_part.f
  rw [ppart_loop (dl s) k s 0 (At0 s) hs (by rw [dl_len]; exact hk)]
  unfold partB
  rw [dl_len]
  congr 1
  cases (dl s).isEmpty <;> cases decide (s.size ≤ 10) <;> cases (dl s).all letter <;> cases plainB (dl s) <;> cases okB (dl s) <;> rfl
theorem within_one (k : Nat) (l : List Int) (i : Int) (x : Int) (r : List Int) (h : Lt l i (x :: r)) (hl : l.length ≤ 100) : version_within.l0 (k + 1) l l.length i = if mayN x = true then version_within.l0 k l l.length (i + 1) else some false := by
  simp only [version_within.l0]
  have hr : rd l i = x := h.rd 0
  rw [if_pos h.lt, if_pos h.ge, if_pos h.lt, hr, h.wrap (by omega)]
  by_cases h1 : x < 0
  · rw [if_pos h1, if_neg (by rw [mayN_iff]; omega)]
  · rw [if_neg h1]
    by_cases h2 : x > 999999
    · rw [if_pos h2, if_neg (by rw [mayN_iff]; omega)]
    · rw [if_neg h2, if_pos (mayN_iff.2 (by omega))]
theorem within_loop : ∀ (r : List Int) (k : Nat) (l : List Int) (i : Int), Lt l i r → l.length ≤ 100 → r.length < k → version_within.l0 k l l.length i = some (r.all mayN)
  | [], k, l, i, h, hl, hk => by
    obtain ⟨k, rfl, hk'⟩ := pred hk
    simp only [version_within.l0]
    rw [if_neg h.not_lt]; rfl
  | x :: r, k, l, i, h, hl, hk => by
    obtain ⟨k, rfl, hk'⟩ := pred hk
    rw [within_one k l i x r h hl, List.all_cons]
    cases mayN x
    · simp
    · rw [if_pos rfl, within_loop r k l (i + 1) h.next hl (by simp at hk'; omega)]; rfl
theorem within_eq (k : Nat) (a b c : Int) (hk : 5 < k) : version_within.f k [a, b, c] = some (mayN a && mayN b && mayN c) := by
  unfold version_within.f
  rw [within_loop [a, b, c] k [a, b, c] 0 (Lt.zero _) (by simp) (by simp; omega)]
  simp [Bool.and_assoc]
theorem right_go (k N : Nat) (hN : N ≤ 281474976710656) (hk : N < k) : ∀ (l : List ByteArray) (n : Nat), (∀ x ∈ l, x.size ≤ N) → n ≤ 5 → version_right.go k l n = some ((l.all fun x => partB (dl x)) && decide (n + l.length ≤ 5))
  | [], n, _, hn => by
    simp only [version_right.go, List.all_nil, Bool.true_and, List.length_nil, Nat.add_zero]
    rw [decide_eq_true hn]
  | x :: l, n, hx, hn => by
    have h1 := hx x List.mem_cons_self
    simp only [version_right.go]
    rw [part_eq k x (by omega) (by omega)]
    simp only [Option.bind_some, List.all_cons, List.length_cons]
    cases partB (dl x)
    · simp
    · rw [if_neg (by decide)]
      by_cases h5 : 5 < n + 1
      · rw [if_pos h5, decide_eq_false (by omega), Bool.and_false]
      · rw [if_neg h5, right_go k N hN hk l (n + 1) (fun y hy => hx y (List.mem_cons_of_mem _ hy)) (by omega), Bool.true_and]
        rw [show n + 1 + l.length = n + (l.length + 1) by omega]
theorem right_eq (k : Nat) (v : Ver) (hs : v.2.2.2.size ≤ 140737488351232) (hk : v.2.2.2.size + 10 < k) : version_right.f k v.1 v.2.1 v.2.2.1 v.2.2.2 = some (rightB v) := by
  unfold version_right.f rightB preB
  rw [within_eq k _ _ _ (by omega), toList_eq]
  change (if (dl v.2.2.2).isEmpty = true then _ else _) = _
  cases he : (dl v.2.2.2).isEmpty with
  | true => rw [if_pos rfl]; simp
  | false =>
    rw [if_neg (by decide), if_pos (by omega), cutsL_mk, right_go k v.2.2.2.size (by omega) (by omega) _ 0 (fun x hx => by
      obtain ⟨y, hy, rfl⟩ := List.mem_map.1 hx
      have := cuts_le 46 _ y hy
      rw [dl_len] at this
      rw [mk_size]; exact this) (by omega)]
    simp only [Option.bind_some, List.all_map, List.length_map, Nat.zero_add, Bool.false_or]
    change (if ((cuts 46 (dl v.2.2.2)).all partB && decide ((cuts 46 (dl v.2.2.2)).length ≤ 5)) = true then _ else _) = _
    cases ((cuts 46 (dl v.2.2.2)).all partB && decide ((cuts 46 (dl v.2.2.2)).length ≤ 5)) <;> simp
theorem itoa_eq (n : Int) (h : 0 ≤ n ∧ n ≤ 999999) : strconv_Itoa.f n = some (mk (Lib.decDigits n.toNat)) := by
  unfold strconv_Itoa.f Lib.itoa
  rw [if_pos (by omega), if_pos (by omega), if_neg (by omega)]
theorem print_eq (k : Nat) (v : Ver) (hs : v.2.2.2.size ≤ 140737488351232) (hk : v.2.2.2.size + 10 < k) : version_Print.f k v.1 v.2.1 v.2.2.1 v.2.2.2 = some (mk (printP v).1, (printP v).2) := by
  unfold version_Print.f printP
  rw [right_eq k v hs hk]
  simp only [Option.bind_some]
  by_cases h : rightB v = true
  · obtain ⟨h1, h2, h3, _⟩ := right_nums h
    have l1 := dec_len (n := v.1.toNat) (by omega)
    have l2 := dec_len (n := v.2.1.toNat) (by omega)
    have l3 := dec_len (n := v.2.2.1.toNat) (by omega)
    have hl := dl_len v.2.2.2
    rw [if_pos h, if_pos h, itoa_eq _ h1, itoa_eq _ h2, itoa_eq _ h3]
    simp only [Option.bind_some, e46, e45, mk_append, mk_size, List.length_append, List.length_cons, List.length_nil, toList_eq]
    rw [if_pos (by omega), if_pos (by omega), if_pos (by omega), if_pos (by omega)]
    change (if dl v.2.2.2 = [] then _ else _) = _
    unfold told
    by_cases he : dl v.2.2.2 = []
    · rw [if_pos he, if_pos he]; simp
    · rw [if_neg he, if_neg he, if_pos (by omega), if_pos (by rw [ByteArray.size_append, mk_size]; simp; omega)]
      conv => lhs; rw [← mk_dl v.2.2.2, mk_append, mk_append]
      simp
  · rw [if_neg h, if_neg h]; rfl
theorem pParse_eq (k : Nat) (s : ByteArray) (hs : s.size ≤ 2147483640) (hk : s.size + 20 < k) : version_Parse.f k s = some (flat5 (parseP (dl s))) := by
  unfold version_Parse.f
  rw [scut_eq s (by omega), cutB_eq]
  simp only [Option.bind_some]
  change ((strings_Split.f k (mk (cutL 45 (dl s)).1) ⟨#[46]⟩).bind fun l => if l.length = 3 then (if ((cutL 45 (dl s)).2.2 && (mk (cutL 45 (dl s)).2.1).toList.isEmpty) = true then _ else version_Parse.go k (mk (cutL 45 (dl s)).2.1) l 0 0 0 0) else _) = _
  have hlen := cutL_len 45 (dl s)
  rw [dl_len] at hlen
  rw [split_eq k _ (by rw [mk_size]; omega) (by rw [mk_size]; omega), dl_mk, mk_toList]
  simp only [Option.bind_some, List.length_map]
  unfold parseP
  revert hlen
  generalize cutL 45 (dl s) = C
  obtain ⟨front, pre, more⟩ := C
  intro hlen
  simp only at hlen ⊢
  have hle := cuts_le 46 front
  rcases parse3_cases more pre (cuts 46 front) with ⟨a, b, d, hcc⟩ | ⟨hn, hz⟩
  · rw [hcc] at hle ⊢
    have ha := hle a (by simp)
    have hb := hle b (by simp)
    have hd := hle d (by simp)
    rw [if_pos (show ([a, b, d] : List (List UInt8)).length = 3 from rfl), parse3_three]
    cases hm : (more && pre.isEmpty) with
    | true => simp [flat5, zeroV, e0]
    | false =>
      rw [if_neg (by decide)]
      simp only [List.map_cons, List.map_nil, version_Parse.go]
      rw [number_eq (mk a) (by rw [mk_size]; omega), number_eq (mk b) (by rw [mk_size]; omega), number_eq (mk d) (by rw [mk_size]; omega)]
      simp only [Option.bind_some, dl_mk]
      cases oa : okB a with
      | false => simp [flat5, zeroV, e0]
      | true =>
        cases ob : okB b with
        | false => simp [flat5, zeroV, e0]
        | true =>
          cases od : okB d with
          | false => simp [flat5, zeroV, e0]
          | true =>
            have na := okB_num oa
            have nb := okB_num ob
            have nd := okB_num od
            have hr : rightB ((numV a : Int), (numV b : Int), (numV d : Int), mk pre) = preB pre := by
              unfold rightB
              simp only [dl_mk]
              rw [mayN_iff.2 (by omega), mayN_iff.2 (by omega), mayN_iff.2 (by omega)]
              simp
            have hre := right_eq k ((numV a : Int), (numV b : Int), (numV d : Int), mk pre) (by simp only [mk_size]; omega) (by simp only [mk_size]; omega)
            rw [hr] at hre
            simp only at hre
            simp only [Bool.true_eq_false, if_false, if_true, Nat.zero_add, Nat.reduceAdd, Nat.succ_ne_zero, Nat.reduceEqDiff, na.2.2, nb.2.2, nd.2.2]
            rw [hre]
            simp only [Option.bind_some]
            cases preB pre <;> simp [flat5, zeroV, e0]
  · rw [hz, if_neg hn]
    simp [flat5, zeroV, e0]
theorem cmpInt_eq (a b : Int) : cmp_Compare_int.f a b = some (cmpI a b) := by
  unfold cmp_Compare_int.f cmp_isNaN_int.f cmpI
  simp only [bne_self_eq_false, Option.bind_some, Bool.false_eq_true, if_false]
  by_cases h : a < b
  · rw [if_pos h, if_pos h]
  · rw [if_neg h, if_neg h]
    by_cases h2 : a > b
    · rw [if_pos h2, if_pos h2]
    · rw [if_neg h2, if_neg h2]
theorem cmpStr_eq (a b : ByteArray) : cmp_Compare_string.f a b = some (cmpB (dl a) (dl b)) := by
  unfold cmp_Compare_string.f cmp_isNaN_string.f
  simp only [bne_self_eq_false, Option.bind_some, Bool.false_eq_true, if_false, toList_eq]
  exact cmpB_less (dl a) (dl b)
theorem parts_eq (k : Nat) (x y : ByteArray) (hx : x.size ≤ 2147483647) (hy : y.size ≤ 2147483647) (ox : Okp (dl x)) (oy : Okp (dl y)) (hk : 1 ≤ k) : version_parts.f k x y = some (partsC (dl x) (dl y)) := by
  unfold version_parts.f
  rw [number_eq x (by omega), number_eq y (by omega)]
  simp only [Option.bind_some]
  obtain ⟨k, rfl, hk'⟩ := pred (show 0 < k by omega)
  simp only [version_parts.j0]
  rw [cmpInt_eq, cmpStr_eq]
  unfold partsC
  cases hpx : plainB (dl x) with
  | true =>
    cases hpy : plainB (dl y) with
    | true =>
      rw [(okB_num (ox hpx)).2.2, (okB_num (oy hpy)).2.2]
      simp
    | false => simp
  | false =>
    cases hpy : plainB (dl y) with
    | true => simp
    | false => simp
theorem rows_loop (A B : List ByteArray) (hA : A.length ≤ 2147483647) (hB : B.length ≤ 2147483647) : ∀ (ra rb : List ByteArray) (k : Nat) (i : Int), Lt A i ra → Lt B i rb → (∀ x ∈ ra, Okp (dl x) ∧ x.size ≤ 2147483647) → (∀ x ∈ rb, Okp (dl x) ∧ x.size ≤ 2147483647) → ra.length + 1 < k →
    version_rows_string.l0 k A B (mn A.length B.length) i = some (rowsL partsC (ra.map dl) (rb.map dl))
  | [], rb, k, i, hra, hrb, _, _, hk => by
    obtain ⟨k, rfl, hk'⟩ := pred hk
    have la := hra.length
    have lb := hrb.length
    have hmn : ¬ i < mn (A.length : Int) B.length := by unfold mn; simp at la; split <;> omega
    simp only [version_rows_string.l0]
    rw [if_neg hmn, cmpInt_eq]
    simp only [Option.bind_some]
    cases rb with
    | nil => simp at la lb; simp [rowsL, cmpI]; omega
    | cons y t =>
      simp at la lb
      simp only [List.map_nil, List.map_cons, rowsL]
      unfold cmpI
      rw [if_pos (by omega)]
  | x :: ra, [], k, i, hra, hrb, _, _, hk => by
    obtain ⟨k, rfl, hk'⟩ := pred hk
    have la := hra.length
    have lb := hrb.length
    simp at la lb
    have hmn : ¬ i < mn (A.length : Int) B.length := by unfold mn; split <;> omega
    simp only [version_rows_string.l0]
    rw [if_neg hmn, cmpInt_eq]
    simp only [Option.bind_some, List.map_nil, List.map_cons, rowsL]
    unfold cmpI
    rw [if_neg (by omega), if_pos (by omega)]
  | x :: ra, y :: rb, k, i, hra, hrb, ha, hb, hk => by
    rw [List.length_cons] at hk
    obtain ⟨k, rfl, hk'⟩ := pred hk
    have hx := ha x List.mem_cons_self
    have hy := hb y List.mem_cons_self
    have l1 := hra.lt
    have l2 := hrb.lt
    have hmn : i < mn (A.length : Int) B.length := by unfold mn; split <;> omega
    simp only [version_rows_string.l0]
    rw [if_pos hmn, if_pos hra.ge, if_pos hra.lt, if_pos hrb.lt, hra.rd, hrb.rd, parts_eq k x y hx.2 hy.2 hx.1 hy.1 (by omega), hra.wrap (by omega)]
    simp only [Option.bind_some, List.map_cons, rowsL]
    by_cases h0 : partsC (dl x) (dl y) = 0
    · rw [if_pos h0, if_pos h0]
      exact rows_loop A B hA hB ra rb k (i + 1) hra.next hrb.next (fun z hz => ha z (List.mem_cons_of_mem _ hz)) (fun z hz => hb z (List.mem_cons_of_mem _ hz)) (by omega)
    · rw [if_neg h0, if_neg h0]
theorem or3_eq (k : Nat) (a b c : Int) (hk : 5 < k) : cmp_Or_int.f k [a, b, c] = some (if a = 0 then (if b = 0 then c else b) else a) := by
  obtain ⟨k, rfl, _⟩ := pred (show 4 < k by omega)
  obtain ⟨k, rfl, _⟩ := pred (show 3 < k by omega)
  obtain ⟨k, rfl, _⟩ := pred (show 2 < k by omega)
  obtain ⟨k, rfl, _⟩ := pred (show 1 < k by omega)
  have r0 : rd [a, b, c] 0 = a := rfl
  have r1 : rd [a, b, c] 1 = b := rfl
  have r2 : rd [a, b, c] 2 = c := rfl
  have w1 : wrap64 (0 + 1) = 1 := by unfold wrap64; omega
  have w2 : wrap64 (1 + 1) = 2 := by unfold wrap64; omega
  have w3 : wrap64 (2 + 1) = 3 := by unfold wrap64; omega
  have hl : (([a, b, c] : List Int).length : Int) = 3 := rfl
  unfold cmp_Or_int.f
  simp only [cmp_Or_int.l0, hl, r0, w1, r1, w2, r2, w3]
  by_cases ha : a = 0 <;> by_cases hb : b = 0 <;> by_cases hc : c = 0 <;> simp [ha, hb, hc]
theorem pCompare_eq (k : Nat) (v w : Ver) (hv : v.2.2.2.size ≤ 1000000) (hw : w.2.2.2.size ≤ 1000000) (hk : 10000000 < k) : version_Compare.f k v.1 v.2.1 v.2.2.1 v.2.2.2 w.1 w.2.1 w.2.2.1 w.2.2.2 = some (cmpT v w) := by
  unfold version_Compare.f cmpT
  rw [right_eq k v (by omega) (by omega), right_eq k w (by omega) (by omega)]
  simp only [Option.bind_some]
  obtain ⟨k, rfl, hk'⟩ := pred hk
  simp only [version_Compare.j0]
  cases hrv : rightB v with
  | false => simp
  | true =>
    cases hrw : rightB w with
    | false => simp
    | true =>
      obtain ⟨_, _, _, pv⟩ := right_nums hrv
      obtain ⟨_, _, _, pw⟩ := right_nums hrw
      rw [cmpInt_eq, cmpInt_eq, cmpInt_eq]
      simp only [Bool.not_true, Bool.false_eq_true, if_false, if_true, and_self, Option.bind_some]
      rw [or3_eq k _ _ _ (by omega)]
      simp only [Option.bind_some]
      obtain ⟨k, rfl, hk'⟩ := pred (show 9999990 < k by omega)
      have hend : ∀ b : Bool, version_Compare.j1 (k + 1) 0 b v.1 v.2.1 v.2.2.1 v.2.2.2 w.1 w.2.1 w.2.2.1 w.2.2.2 = some (if b = true then 0 else if dl v.2.2.2 = [] then 1 else if dl w.2.2.2 = [] then -1 else rowsL partsC (cuts 46 (dl v.2.2.2)) (cuts 46 (dl w.2.2.2))) := by
        intro b
        simp only [version_Compare.j1, toList_eq]
        change (if b = true then _ else if dl v.2.2.2 = [] then _ else if dl w.2.2.2 = [] then _ else _) = _
        cases b with
        | true => simp
        | false =>
          simp only [Bool.false_eq_true, if_false]
          have lv := dl_len v.2.2.2
          have lw := dl_len w.2.2.2
          by_cases ea : dl v.2.2.2 = []
          · rw [if_pos ea, if_pos ea]
          · rw [if_neg ea, if_neg ea]
            by_cases eb : dl w.2.2.2 = []
            · rw [if_pos eb, if_pos eb]
            · have n1 := cuts_len 46 (dl v.2.2.2)
              have n2 := cuts_len 46 (dl w.2.2.2)
              rw [if_neg eb, if_neg eb, split_eq k _ (by omega) (by omega), split_eq k _ (by omega) (by omega)]
              simp only [Option.bind_some]
              unfold version_rows_string.f
              rw [rows_loop _ _ (by rw [List.length_map]; omega) (by rw [List.length_map]; omega) _ _ k 0 (Lt.zero _) (Lt.zero _)
                  (fun x hx => by
                    obtain ⟨y, hy, rfl⟩ := List.mem_map.1 hx
                    have := cuts_le 46 _ y hy
                    exact ⟨preB_parts pv ea y hy, by rw [mk_size]; omega⟩)
                  (fun x hx => by
                    obtain ⟨y, hy, rfl⟩ := List.mem_map.1 hx
                    have := cuts_le 46 _ y hy
                    exact ⟨preB_parts pw eb y hy, by rw [mk_size]; omega⟩) (by rw [List.length_map]; omega), map_dl_mk, map_dl_mk]
              rfl
      unfold cmpV cmpP
      by_cases h1 : cmpI v.1 w.1 = 0
      · rw [if_pos h1, if_pos h1]
        by_cases h2 : cmpI v.2.1 w.2.1 = 0
        · rw [if_pos h2, if_pos h2]
          by_cases h3 : cmpI v.2.2.1 w.2.2.1 = 0
          · rw [if_pos h3, if_pos h3, h3, hend, toList_eq, toList_eq]
            congr 1
            change (if (dl v.2.2.2 == dl w.2.2.2) = true then _ else _) = _
            by_cases eab : dl v.2.2.2 = dl w.2.2.2
            · rw [if_pos (by simpa using eab), if_pos eab]
            · rw [if_neg (by simpa using eab), if_neg eab]
          · rw [if_neg h3, if_neg h3]
            simp [version_Compare.j1]
        · rw [if_neg h2, if_neg h2, if_neg h2]
          simp [version_Compare.j1]
      · rw [if_neg h1, if_neg h1, if_neg h1]
        simp [version_Compare.j1]
end Go.Proofs.YtijooffpjfhidaaGreatDoor.Vp
end
section
namespace Go.Proofs.YtijooffpjfhidaaGreatDoor.G
open Go.RowKit Go.Proofs.YtijooffpjfhidaaGreatDoorW.PrintWords Go.Proofs.YtijooffpjfhidaaGreatDoorW.PrintLast Go.Proofs.YtijooffpjfhidaaGreatDoorW.PrintMore
attribute [local go_sem] Go.Proofs.YtijooffpjfhidaaGreatDoor.Aid.gtr_string max2_int min2_int max_two min_two max_three min_three max_four min_four
set_option linter.unusedVariables false
set_option linter.unusedSimpArgs false
theorem eqA35 (d : Nat) (w : World) (x0 y0 : Int) (x1 y1 : Int) (x2 y2 : Int) (x3 y3 : ByteArray) :
    (Op.equalIn (d + 2) 35 (.agg #[.int .i64 x0, .int .i64 x1, .int .i64 x2, .string x3]) (.agg #[.int .i64 y0, .int .i64 y1, .int .i64 y2, .string y3])).run Tryz.prog w = .ok (x0 == y0 && (x1 == y1 && (x2 == y2 && (x3.toList == y3.toList)))) w := by
  refine eqA_of Tryz.underlying35 (by kernel_rfl) ?_
  refine eqf_cons (by rfl) (by go_simp; rfl) (by go_simp; rfl) (by go_simp) ?_
  refine eqf_cons (by rfl) (by go_simp; rfl) (by go_simp; rfl) (by go_simp) ?_
  refine eqf_cons (by rfl) (by go_simp; rfl) (by go_simp; rfl) (by go_simp) ?_
  exact eqf_last (by rfl) (by go_simp; rfl) (by go_simp; rfl) (by go_simp)
theorem eqA45 (d : Nat) (w : World) (x0 y0 : Int) (x1 y1 : Int) (x2 y2 : Int) (x3 y3 : Int) (x4 y4 : ByteArray) :
    (Op.equalIn (d + 3) 45 (.agg #[.int .i64 x0, .int .i64 x1, .int .i64 x2, .int .i64 x3, .string x4]) (.agg #[.int .i64 y0, .int .i64 y1, .int .i64 y2, .int .i64 y3, .string y4])).run Tryz.prog w = .ok (x0 == y0 && ((x1 == y1 && (x2 == y2 && (x3 == y3 && (x4.toList == y4.toList)))))) w := by
  refine eqA_of Tryz.underlying45 (by kernel_rfl) ?_
  refine eqf_cons (by rfl) (by go_simp; rfl) (by go_simp; rfl) (by go_simp) ?_
  exact eqf_last (by rfl) (by go_simp) (by go_simp) (eqA35 (d + 0) w _ _ _ _ _ _ _ _)
end Go.Proofs.YtijooffpjfhidaaGreatDoor.G
end
section
namespace Go.Proofs.YtijooffpjfhidaaGreatDoor.Vp
open Go Go.RowKit Go.Proofs.YtijooffpjfhidaaGreatDoorW.PrintWords Go.Proofs.YtijooffpjfhidaaGreatDoor.Txt Go.Proofs.YtijooffpjfhidaaGreatDoor.Trim Go.Proofs.YtijooffpjfhidaaGreatDoor.Num Go.Proofs.YtijooffpjfhidaaGreatDoor.Seq Go.Proofs.YtijooffpjfhidaaGreatDoor.G
def holdsB (b : Bd) (v : Ver) : Bool :=
  if b.1 = 1 then cmpT v b.2 == 0 else if b.1 = 2 then decide (cmpT v b.2 < 0) else if b.1 = 3 then decide (cmpT v b.2 ≤ 0) else if b.1 = 4 then decide (cmpT v b.2 > 0) else decide (cmpT v b.2 ≥ 0)
def nearB (b : Bd) (v : Ver) : Bool := !(dl b.2.2.2.2).isEmpty && (decide (b.2.1 = v.1) && decide (b.2.2.1 = v.2.1) && decide (b.2.2.2.1 = v.2.2.1))
def letsA (l : List Bd) (v : Ver) : Bool := (l.all fun b => holdsB b v) && ((dl v.2.2.2).isEmpty || l.any fun b => nearB b v)
def holdsR (r : Ran) (v : Ver) : Bool := rightR r && rightB v && r.any fun l => letsA l v
def toV (x : S35) : Ver := (x.f0, x.f1, x.f2, x.f3)
def toB (b : S45) : Bd := (b.f0, toV b.f1)
def toA (l : List S45) : List Bd := l.map toB
def toR (r : List (List S45)) : Ran := r.map toA
def SzA (n : Nat) (l : List S45) : Prop := ∀ b ∈ l, b.f1.f3.size ≤ n
def SzR (n : Nat) (r : List (List S45)) : Prop := ∀ l ∈ r, SzA n l
end Go.Proofs.YtijooffpjfhidaaGreatDoor.Vp
end
section
namespace Go.Proofs.YtijooffpjfhidaaGreatDoor.Vp
open Go Go.RowKit Go.Proofs.YtijooffpjfhidaaGreatDoorW.PrintWords Go.Proofs.YtijooffpjfhidaaGreatDoor.Txt Go.Proofs.YtijooffpjfhidaaGreatDoor.Trim Go.Proofs.YtijooffpjfhidaaGreatDoor.Num Go.Proofs.YtijooffpjfhidaaGreatDoor.Seq Go.Proofs.YtijooffpjfhidaaGreatDoor.G
def boundOk (b : Bd) : Bool := decide (1 ≤ b.1 ∧ b.1 ≤ 5) && rightB b.2
theorem rightA_def (l : List Bd) : rightA l = (decide (l.length ≤ 8) && l.all boundOk) := rfl
theorem toA_cons (b : S45) (l : List S45) : toA (b :: l) = toB b :: toA l := rfl
theorem toR_cons (b : List S45) (l : List (List S45)) : toR (b :: l) = toA b :: toR l := rfl
theorem toA_len (l : List S45) : (toA l).length = l.length := List.length_map _
theorem toR_len (l : List (List S45)) : (toR l).length = l.length := List.length_map _
def tailA : List Bd → List UInt8
  | [] => []
  | b :: l => 32 :: wordB b ++ tailA l
def bodyA : List Bd → List UInt8
  | [] => []
  | b :: l => wordB b ++ tailA l
theorem joinC_body : ∀ l : List Bd, joinC 32 (l.map wordB) = bodyA l
  | [] => rfl
  | [b] => by simp [joinC, bodyA, tailA]
  | b :: c :: l => by
    have ih := joinC_body (c :: l)
    rw [List.map_cons, joinC_cons 32 _ (by simp), ih]
    simp [bodyA, tailA]
theorem wordA_body (l : List Bd) : wordA l = if l = [] then [42] else bodyA l := by unfold wordA; rw [joinC_body]
def tailD : List (List Bd) → List UInt8
  | [] => []
  | l :: r => 32 :: 124 :: 124 :: 32 :: wordA l ++ tailD r
theorem joinD_tail : ∀ (l : List Bd) (r : List (List Bd)), joinD ((l :: r).map wordA) = wordA l ++ tailD r
  | l, [] => by simp [joinD, tailD]
  | l, m :: r => by
    have ih := joinD_tail m r
    rw [List.map_cons, joinD_cons _ (by simp), ih]
    simp [tailD]
def lenA (l : List S45) : Nat := (l.map fun b => 30 + b.f1.f3.size).sum
def lenR (r : List (List S45)) : Nat := (r.map fun l => 10 + lenA l).sum
theorem wordB_len {b : S45} (h : boundOk (toB b) = true) : (wordB (toB b)).length ≤ 25 + b.f1.f3.size := by
  unfold boundOk at h
  rw [Bool.and_eq_true] at h
  have ht := told_len h.2
  have h3 : (toB b).2.2.2.2.size = b.f1.f3.size := rfl
  rw [h3] at ht
  have hs : (sgn (toB b).1).length ≤ 2 := by unfold sgn; (repeat' split) <;> simp
  unfold wordB
  rw [List.length_append]; omega
end Go.Proofs.YtijooffpjfhidaaGreatDoor.Vp
end
section
namespace Go.Proofs.YtijooffpjfhidaaGreatDoor.Vp
open Go Go.RowKit Go.Proofs.YtijooffpjfhidaaGreatDoorW.PrintWords Go.Proofs.YtijooffpjfhidaaGreatDoor.Txt Go.Proofs.YtijooffpjfhidaaGreatDoor.Trim Go.Proofs.YtijooffpjfhidaaGreatDoor.Num Go.Proofs.YtijooffpjfhidaaGreatDoor.Seq Go.Proofs.YtijooffpjfhidaaGreatDoor.G
def ofV (v : Ver) : S35 := ⟨v.1, v.2.1, v.2.2.1, v.2.2.2⟩
def ofB (b : Bd) : S45 := ⟨b.1, ofV b.2⟩
def ofA (l : List Bd) : List S45 := l.map ofB
def ofR (r : Ran) : List (List S45) := r.map ofA
theorem toA_ofA : ∀ l, toA (ofA l) = l
  | [] => rfl
  | b :: l => by show toB (ofB b) :: toA (ofA l) = _; rw [toA_ofA l]; rfl
theorem toR_ofR : ∀ r, toR (ofR r) = r
  | [] => rfl
  | l :: r => by show toA (ofA l) :: toR (ofR r) = _; rw [toR_ofR r, toA_ofA l]
theorem ofA_app (a b : List Bd) : ofA (a ++ b) = ofA a ++ ofA b := List.map_append
theorem ofA_len (l : List Bd) : (ofA l).length = l.length := List.length_map _
def opI (l : List UInt8) : Int := if [60, 61].isPrefixOf l = true then 3 else if [62, 61].isPrefixOf l = true then 5 else if [60].isPrefixOf l = true then 2 else if [62].isPrefixOf l = true then 4 else if [61].isPrefixOf l = true then 1 else 0
theorem pre_take (u l : List UInt8) : u.isPrefixOf l = true ↔ u.length ≤ l.length ∧ l.take u.length = u := by
  rw [List.isPrefixOf_iff_prefix]
  constructor
  · rintro ⟨t, rfl⟩
    exact ⟨by simp, List.take_left⟩
  · rintro ⟨_, h⟩
    exact ⟨l.drop u.length, by conv => lhs; lhs; rw [← h]
                               exact List.take_append_drop _ _⟩
theorem opW_opI (l : List UInt8) : opW l = if opI l > 0 then (opI l, l.drop (sgn (opI l)).length) else (1, l) := by
  have p1 : ∀ (c : UInt8) (r : List UInt8) (a : UInt8), ([a] : List UInt8).isPrefixOf (c :: r) = decide (c = a) := fun c r a => by
    simp only [List.isPrefixOf, Bool.and_true]
    by_cases h : c = a
    · subst h; simp
    · rw [decide_eq_false h]; exact beq_eq_false_iff_ne.2 (fun e => h e.symm)
  have p2 : ∀ (c : UInt8) (r : List UInt8) (a b : UInt8), ([a, b] : List UInt8).isPrefixOf (c :: r) = (decide (c = a) && decide (r.head? = some b)) := fun c r a b => by
    have e1 : (a == c) = decide (c = a) := by
      by_cases h : c = a
      · subst h; simp
      · rw [decide_eq_false h]; exact beq_eq_false_iff_ne.2 (fun e => h e.symm)
    cases r with
    | nil => simp [List.isPrefixOf]
    | cons d r =>
      simp only [List.isPrefixOf, Bool.and_true, e1, List.head?_cons, Option.some.injEq]
      congr 1
      by_cases h : d = b
      · subst h; simp
      · rw [decide_eq_false h]; exact beq_eq_false_iff_ne.2 (fun e => h e.symm)
  cases l with
  | nil => rfl
  | cons c r =>
    unfold opI opW
    simp only [p1, p2]
    by_cases c60 : c = 60
    · subst c60
      by_cases hr : r.head? = some 61
      · simp [hr, sgn]
      · simp [hr, sgn]
    · by_cases c62 : c = 62
      · subst c62
        by_cases hr : r.head? = some 61
        · simp [hr, sgn]
        · simp [hr, sgn]
      · by_cases c61 : c = 61
        · subst c61; simp [sgn]
        · simp [c60, c62, c61]
theorem parse_sz (l : List UInt8) : (parseP l).1.2.2.2.size ≤ l.length := by
  cases h : parseP l with
  | mk v t =>
    cases t with
    | true =>
      have hr := parse_right h
      have hl := congrArg List.length hr.2
      have hd := dl_len v.2.2.2
      unfold told at hl
      show v.2.2.2.size ≤ _
      by_cases he : dl v.2.2.2 = []
      · rw [he] at hd; simp at hd; omega
      · rw [if_neg he] at hl; simp at hl; omega
    | false =>
      have := parse_none h
      subst this
      show zeroV.2.2.2.size ≤ _
      have : zeroV.2.2.2.size = 0 := by decide
      omega
theorem parse_rng (l : List UInt8) : (0 ≤ (parseP l).1.1 ∧ (parseP l).1.1 ≤ 999999) ∧ (0 ≤ (parseP l).1.2.1 ∧ (parseP l).1.2.1 ≤ 999999) ∧ (0 ≤ (parseP l).1.2.2.1 ∧ (parseP l).1.2.2.1 ≤ 999999) := by
  cases h : parseP l with
  | mk v t =>
    cases t with
    | true =>
      have hr := right_nums (parse_right h).1
      exact ⟨hr.1, hr.2.1, hr.2.2.1⟩
    | false =>
      have := parse_none h
      subst this
      decide
theorem next_pre (v : Ver) (t : Bool) : (nextV v t).2.2.2.size = 0 := by
  unfold nextV
  (repeat' split) <;> rfl
def twoP (r : List UInt8) (t : Bool) : List Bd × Bool := ([(5, (parseP r).1), (2, nextV (parseP r).1 t)], (parseP r).2 && rightB (nextV (parseP r).1 t))
def oneP : List UInt8 → List Bd × Bool
  | [] => ([], true)
  | c :: r => if c = 42 ∧ r = [] then ([], true) else if c = 94 ∨ c = 126 then twoP r (decide (c = 126)) else ([((opW (c :: r)).1, (parseP (opW (c :: r)).2).1)], (parseP (opW (c :: r)).2).2)
theorem opW_len (l : List UInt8) : (opW l).2.length ≤ l.length := by
  rw [opW_opI]
  split
  · rw [List.length_drop]; omega
  · exact Nat.le_refl _
end Go.Proofs.YtijooffpjfhidaaGreatDoor.Vp
end
section
namespace Go.Proofs.YtijooffpjfhidaaGreatDoor.Vp
open Go Go.RowKit Go.Proofs.YtijooffpjfhidaaGreatDoorW.PrintWords Go.Proofs.YtijooffpjfhidaaGreatDoor.Txt Go.Proofs.YtijooffpjfhidaaGreatDoor.Trim Go.Proofs.YtijooffpjfhidaaGreatDoor.Num Go.Proofs.YtijooffpjfhidaaGreatDoor.Seq Go.Proofs.YtijooffpjfhidaaGreatDoor.G
theorem one_word (w : List UInt8) : match wordP w with
    | none => (oneP w).2 = false
    | some a => oneP w = (a, true) ∨ ((oneP w).2 = false ∧ a.all boundOk = false) := by
  cases w with
  | nil => exact .inl rfl
  | cons c r =>
    simp only [wordP, oneP]
    by_cases h1 : c = 42 ∧ r = []
    · rw [if_pos h1, if_pos h1]; exact .inl rfl
    · rw [if_neg h1, if_neg h1]
      by_cases h2 : c = 94 ∨ c = 126
      · rw [if_pos h2, if_pos h2]
        by_cases h3 : (parseP r).2 = true
        · rw [if_pos h3]
          show twoP r _ = _ ∨ _
          unfold twoP
          rw [h3, Bool.true_and]
          by_cases h4 : rightB (nextV (parseP r).1 (decide (c = 126))) = true
          · rw [h4]; exact .inl rfl
          · rw [Bool.not_eq_true] at h4
            refine .inr ⟨h4, ?_⟩
            simp [boundOk, h4]
        · rw [if_neg h3]
          show (twoP r _).2 = false
          unfold twoP
          rw [Bool.not_eq_true] at h3
          rw [h3]; rfl
      · rw [if_neg h2, if_neg h2]
        by_cases h3 : (parseP (opW (c :: r)).2).2 = true
        · rw [if_pos h3, h3]; exact .inl rfl
        · rw [if_neg h3]
          rwa [Bool.not_eq_true] at h3
def SzP (n : Nat) (l : List Bd) : Prop := ∀ b ∈ l, b.2.2.2.2.size ≤ n
theorem oneP_sz (w : List UInt8) : SzP w.length (oneP w).1 ∧ (oneP w).1.length ≤ 2 := by
  cases w with
  | nil => exact ⟨fun b hb => by simp [oneP] at hb, by simp [oneP]⟩
  | cons c r =>
    simp only [oneP]
    split
    · exact ⟨fun b hb => by simp at hb, by simp⟩
    · split
      · refine ⟨fun b hb => ?_, by simp [twoP]⟩
        simp only [twoP, List.mem_cons, List.not_mem_nil, or_false] at hb
        have := parse_sz r
        rcases hb with rfl | rfl
        · show (parseP r).1.2.2.2.size ≤ _; simp; omega
        · have := next_pre (parseP r).1 (decide (c = 126)); simp only at this ⊢; omega
      · refine ⟨fun b hb => ?_, by simp⟩
        simp only [List.mem_singleton] at hb
        subst hb
        have h1 := parse_sz (opW (c :: r)).2
        have h2 := opW_len (c :: r)
        show (parseP (opW (c :: r)).2).1.2.2.2.size ≤ _; omega
theorem szA_ofA {n : Nat} {l : List Bd} (h : SzP n l) : SzA n (ofA l) := fun b hb => by
  obtain ⟨c, hc, rfl⟩ := List.mem_map.1 hb
  exact h c hc
def finS (o : Option (List (List S45))) : List (List S45) × Bool :=
  match o with
  | some r => if rightR (toR r) = true then (r, true) else ([], false)
  | none => ([], false)
theorem words_len (l : List UInt8) : (words l).length ≤ l.length + 1 := Nat.le_trans (List.length_filter_le _ _) (cuts_len 32 l)
theorem words_mem {l w : List UInt8} (h : w ∈ words l) : w ≠ [] ∧ w.length ≤ l.length := by
  unfold words at h
  rw [List.mem_filter] at h
  refine ⟨fun e => ?_, cuts_le 32 l w h.1⟩
  have := h.2
  rw [e] at this; simp at this
theorem finS_finR (o : Option Ran) : finS (o.bind fun r => some ([] ++ ofR r)) = (ofR (finR o).1, (finR o).2) := by
  cases o with
  | none => rfl
  | some r =>
    simp only [Option.bind_some, finS, finR, List.nil_append, toR_ofR]
    split <;> rfl
theorem cutp_eq (s : ByteArray) (u : List UInt8) (hu : u.length ≤ 100) (hs : s.size ≤ 2147483647) : strings_CutPrefix.f s (mk u) = some (if u.isPrefixOf (dl s) = true then (mk ((dl s).drop u.length), true) else (s, false)) := by
  have hd := dl_len s
  have hz := mk_size u
  have hp := pre_take u (dl s)
  unfold strings_CutPrefix.f stringslite_CutPrefix.f stringslite_HasPrefix.f
  have hx : s.extract u.length s.size = mk ((dl s).drop u.length) := by
    apply ext
    rw [extract_list]
    change ((dl s).take s.size).drop _ = _
    rw [List.take_of_length_le (by omega)]; rfl
  by_cases h1 : (s.size : Int) ≥ ((mk u).size : Int)
  · rw [if_pos h1, if_pos (by omega), if_pos (by omega), toList_eq, extract_list, mk_toList, Int.toNat_natCast, List.drop_zero, hz]
    change ((some (List.take u.length (dl s) == u)).bind _).bind _ = _
    by_cases h2 : (dl s).take u.length = u
    · rw [if_pos (hp.2 ⟨by omega, h2⟩)]
      have e : (List.take u.length (dl s) == u) = true := beq_iff_eq.2 h2
      rw [e]
      simp only [Option.bind_some, if_true]
      rw [if_pos (by omega), if_pos (by omega), hx]; rfl
    · rw [if_neg (fun e => h2 (hp.1 e).2)]
      have e : (List.take u.length (dl s) == u) = false := beq_eq_false_iff_ne.2 h2
      rw [e]; rfl
  · rw [if_neg h1]
    have : u.isPrefixOf (dl s) = false := by rw [← Bool.not_eq_true]; exact fun e => h1 (by have := (hp.1 e).1; omega)
    rw [this]; rfl
theorem hasp_eq (s : ByteArray) (hs : s.size ≤ 2147483647) : strings_HasPrefix.f s ⟨#[126]⟩ = some ([126].isPrefixOf (dl s)) := by
  have hd := dl_len s
  have hp := pre_take [126] (dl s)
  have e1 : (⟨#[126]⟩ : ByteArray) = mk [126] := rfl
  have hz : (mk [126]).size = 1 := rfl
  unfold strings_HasPrefix.f stringslite_HasPrefix.f
  rw [e1]
  by_cases h1 : (s.size : Int) ≥ ((mk [126]).size : Int)
  · rw [if_pos h1, if_pos (by omega), if_pos (by omega), toList_eq, extract_list, mk_toList, Int.toNat_natCast, List.drop_zero, hz]
    change (some (List.take 1 (dl s) == [126])).bind _ = _
    by_cases h2 : (dl s).take 1 = [126]
    · have e : (List.take 1 (dl s) == [126]) = true := beq_iff_eq.2 h2
      rw [e, hp.2 ⟨by simp; omega, h2⟩]; rfl
    · have e : (List.take 1 (dl s) == [126]) = false := beq_eq_false_iff_ne.2 h2
      have : [126].isPrefixOf (dl s) = false := by rw [← Bool.not_eq_true]; exact fun e => h2 (hp.1 e).2
      rw [e, this]; rfl
  · rw [if_neg h1]
    have : [126].isPrefixOf (dl s) = false := by rw [← Bool.not_eq_true]; exact fun e => h1 (by have := (hp.1 e).1; simp at this; omega)
    rw [this]; rfl
def sgL : List (Int × List UInt8) := [(3, [60, 61]), (5, [62, 61]), (2, [60]), (4, [62]), (1, [61])]
theorem signs_sgL : span_Print.signs = sgL.map fun x => (x.1, mk x.2) := rfl
theorem sg_off (s : ByteArray) (hs : s.size ≤ 2147483647) (op : Int) (rest : ByteArray) (hr : rest ≠ s) : ∀ l : List (Int × List UInt8), (∀ x ∈ l, x.2.length ≤ 100) → span_Parse.sg s (l.map fun x => (x.1, mk x.2)) op rest = some (op, rest)
  | [], _ => rfl
  | x :: l, h => by
    rw [List.map_cons, span_Parse.sg, cutp_eq s x.2 (h x List.mem_cons_self) hs]
    have ih := sg_off s hs op rest hr l (fun y hy => h y (List.mem_cons_of_mem _ hy))
    simp only [Option.bind_some, ih, if_neg hr]
    simp
theorem sg_on (s : ByteArray) (hs : s.size ≤ 2147483647) (x : Int × List UInt8) (l : List (Int × List UInt8)) (h : ∀ y ∈ x :: l, y.2.length ≤ 100 ∧ y.2 ≠ []) (op : Int) :
    span_Parse.sg s ((x :: l).map fun x => (x.1, mk x.2)) op s = if x.2.isPrefixOf (dl s) = true then some (x.1, mk ((dl s).drop x.2.length)) else span_Parse.sg s (l.map fun x => (x.1, mk x.2)) op s := by
  rw [List.map_cons, span_Parse.sg, cutp_eq s x.2 (h x List.mem_cons_self).1 hs]
  by_cases hp : x.2.isPrefixOf (dl s) = true
  · rw [if_pos hp, if_pos hp]
    simp only [Option.bind_some, if_true]
    have hne : mk ((dl s).drop x.2.length) ≠ s := fun e => by
      have h1 := congrArg ByteArray.size e
      rw [mk_size, List.length_drop, dl_len] at h1
      have h2 := ((pre_take _ _).1 hp).1
      rw [dl_len] at h2
      have h3 : 0 < x.2.length := List.length_pos_iff.2 (h x List.mem_cons_self).2
      omega
    rw [sg_off s hs _ _ hne l (fun y hy => (h y (List.mem_cons_of_mem _ hy)).1)]
  · rw [if_neg hp, if_neg hp]
    simp
theorem sg_eq (s : ByteArray) (hs : s.size ≤ 2147483647) : span_Parse.sg s span_Print.signs 1 s = some ((opW (dl s)).1, mk (opW (dl s)).2) := by
  have H : ∀ y ∈ sgL, y.2.length ≤ 100 ∧ y.2 ≠ [] := by decide
  rw [signs_sgL]
  unfold sgL at H ⊢
  rw [sg_on s hs _ _ H, sg_on s hs _ _ (fun y hy => H y (List.mem_cons_of_mem _ hy)), sg_on s hs _ _ (fun y hy => H y (List.mem_cons_of_mem _ (List.mem_cons_of_mem _ hy))), sg_on s hs _ _ (fun y hy => H y (List.mem_cons_of_mem _ (List.mem_cons_of_mem _ (List.mem_cons_of_mem _ hy)))),
    sg_on s hs _ _ (fun y hy => H y (List.mem_cons_of_mem _ (List.mem_cons_of_mem _ (List.mem_cons_of_mem _ (List.mem_cons_of_mem _ hy)))))]
  rw [opW_opI]
  unfold opI
  simp only
  by_cases h1 : [60, 61].isPrefixOf (dl s) = true
  · simp [h1, sgn]
  · by_cases h2 : [62, 61].isPrefixOf (dl s) = true
    · simp [h1, h2, sgn]
    · by_cases h3 : [60].isPrefixOf (dl s) = true
      · simp [h1, h2, h3, sgn]
      · by_cases h4 : [62].isPrefixOf (dl s) = true
        · simp [h1, h2, h3, h4, sgn]
        · by_cases h5 : [61].isPrefixOf (dl s) = true
          · simp [h1, h2, h3, h4, h5, sgn]
          · simp [h1, h2, h3, h4, h5, span_Parse.sg, mk_dl]
theorem above_eq (l : List UInt8) (t : Bool) : span_above.f (parseP l).1.1 (parseP l).1.2.1 (parseP l).1.2.2.1 (parseP l).1.2.2.2 t = some ((nextV (parseP l).1 t).1, (nextV (parseP l).1 t).2.1, (nextV (parseP l).1 t).2.2.1, (nextV (parseP l).1 t).2.2.2) := by
  have h := parse_rng l
  unfold span_above.f nextV
  rw [wrapS (by omega) (by omega), wrapS (by omega) (by omega), wrapS (by omega) (by omega)]
  cases t with
  | true => rfl
  | false =>
    simp only [Bool.false_eq_true, if_false]
    (repeat' split) <;> rfl
theorem pword_eq (k : Nat) (s : ByteArray) (hs : s.size ≤ 2147483640) (hk : s.size + 20 < k) : span_Parse.word k s = some (match wordP (dl s) with | some a => (ofA a, true) | none => ([], false)) := by
  have hd := dl_len s
  unfold span_Parse.word
  rw [toList_eq]
  change (if (dl s).isEmpty = true then _ else _) = _
  cases hl : dl s with
  | nil => rfl
  | cons c r =>
    rw [hl, List.length_cons] at hd
    have h0 := At0 s
    rw [hl] at h0
    have hb := h0.byte
    have e42 : (⟨#[42]⟩ : ByteArray) = mk [42] := rfl
    rw [if_neg (by simp)]
    simp only [wordP]
    by_cases h42 : c = 42 ∧ r = []
    · have : s = ⟨#[42]⟩ := dl_inj (by rw [hl, h42.1, h42.2]; rfl)
      rw [if_pos this, if_pos h42]; rfl
    · have : ¬ s = ⟨#[42]⟩ := fun e => h42 (by
        have := congrArg dl e
        rw [hl, e42, dl_mk] at this
        exact List.cons.inj this)
      have hpre : [126].isPrefixOf (c :: r) = decide (c = 126) := by
        simp only [List.isPrefixOf, Bool.and_true]
        by_cases h : c = 126
        · subst h; rfl
        · rw [decide_eq_false h]; exact beq_eq_false_iff_ne.2 (fun e => h e.symm)
      have hx1 : s.extract 1 s.size = mk r := by rw [← mk_dl s, hl, mk_extract, mk_size]; simp
      have hne : mk r ≠ s := fun e => by have := congrArg ByteArray.size e; rw [mk_size] at this; omega
      have hwide : span_Parse.wide s (decide (c = 126)) = decide (c = 94 ∨ c = 126) := by
        unfold span_Parse.wide
        rw [hb]
        have : decide ((c.toNat : Int) = 94) = decide (c = 94) := by rw [decide_eq_decide]; exact (u8_eq (d := 94)).symm
        rw [this, ← Bool.decide_or, decide_eq_decide]
        exact or_comm
      rw [if_neg this, if_neg h42, hasp_eq s (by omega), hl, hpre]
      simp only [Option.bind_some, hwide]
      by_cases hw : c = 94 ∨ c = 126
      · rw [decide_eq_true hw, if_pos hw, if_pos rfl, if_pos rfl, hx1, signs_sgL, sg_off s (by omega) _ _ hne _ (fun y hy => by revert y; decide)]
        simp only [Option.bind_some]
        rw [pParse_eq k (mk r) (by rw [mk_size]; omega) (by rw [mk_size]; omega), dl_mk]
        simp only [Option.bind_some, flat5]
        rw [above_eq]
        cases (parseP r).2 <;> simp [ofA, ofB, ofV]
      · rw [decide_eq_false hw, if_neg hw, if_neg (by decide), if_neg (by decide), sg_eq s (by omega), hl]
        simp only [Option.bind_some]
        have ho := opW_len (c :: r)
        rw [List.length_cons] at ho
        rw [pParse_eq k _ (by rw [mk_size]; omega) (by rw [mk_size]; omega), dl_mk]
        simp only [Option.bind_some, flat5]
        cases (parseP (opW (c :: r)).2).2 <;> simp [ofA, ofB, ofV]
theorem wordP_len {w : List UInt8} {a : List Bd} (h : wordP w = some a) : a.length ≤ 2 ∧ SzP w.length a := by
  have h1 := one_word w
  have h2 := oneP_sz w
  cases w with
  | nil => simp [wordP] at h; subst h; exact ⟨by simp, fun b hb => by simp at hb⟩
  | cons c r =>
    simp only [wordP] at h
    split at h
    · obtain rfl := Option.some.inj h; exact ⟨by simp, fun b hb => by simp at hb⟩
    · split at h
      · split at h
        · obtain rfl := Option.some.inj h
          refine ⟨by simp, fun b hb => ?_⟩
          simp only [List.mem_cons, List.not_mem_nil, or_false] at hb
          have := parse_sz r
          rcases hb with rfl | rfl
          · show (parseP r).1.2.2.2.size ≤ _; simp; omega
          · have := next_pre (parseP r).1 (decide (c = 126)); simp only at this ⊢; omega
        · cases h
      · split at h
        · obtain rfl := Option.some.inj h
          refine ⟨by simp, fun b hb => ?_⟩
          simp only [List.mem_singleton] at hb
          subst hb
          have h1 := parse_sz (opW (c :: r)).2
          have h2 := opW_len (c :: r)
          show (parseP (opW (c :: r)).2).1.2.2.2.size ≤ _; omega
        · cases h
theorem altP_filter : ∀ ws : List (List UInt8), altP (ws.filter fun w => !w.isEmpty) = altP ws
  | [] => rfl
  | [] :: ws => by
    rw [List.filter_cons, if_neg (by simp), altP_filter ws]
    simp only [altP, wordP, Option.bind_some, List.nil_append]
    cases altP ws <;> rfl
  | (c :: r) :: ws => by rw [List.filter_cons, if_pos (by simp), altP, altP, altP_filter ws]
theorem pread_eq (k S : Nat) (hS : S ≤ 2147483000) (hk : S + 20 < k) : ∀ (ws : List (List UInt8)) (acc : List S45), (∀ w ∈ ws, w.length ≤ S) → acc.length + 2 * ws.length < 1000000 →
    span_Parse.read k (ws.map mk) acc = some (match altP ws with | some a => (acc ++ ofA a, true) | none => ([], false))
  | [], acc, _, _ => by simp [span_Parse.read, altP, ofA]
  | w :: ws, acc, h, ha => by
    rw [List.length_cons] at ha
    have hw := h w List.mem_cons_self
    rw [List.map_cons, span_Parse.read, if_pos (by omega), pword_eq k (mk w) (by rw [mk_size]; omega) (by rw [mk_size]; omega), dl_mk]
    simp only [Option.bind_some, altP]
    cases hp : wordP w with
    | none => rfl
    | some a =>
      have hl := (wordP_len hp).1
      simp only [Bool.true_eq_false, if_false, Option.bind_some]
      rw [pread_eq k S hS hk ws (acc ++ ofA a) (fun x hx => h x (List.mem_cons_of_mem _ hx)) (by rw [List.length_append, ofA_len]; omega)]
      cases altP ws with
      | none => rfl
      | some b => simp [ofA_app]
theorem pbound_ok (b : S45) : boundOk (toB b) = (decide (1 ≤ b.f0 ∧ b.f0 ≤ 5) && rightB (toV b.f1)) := rfl
theorem pRight_l1 (all : List (List S45)) (hall : all.length ≤ 1000000) (S K : Nat) (hS : S ≤ 1000000) (hK : S + 20 < K) (R : Option Bool) (i : Int) (hi : wrap64 (i + 1) = i + 1) (x : List S45) (hxl : x.length ≤ 1000000) (hR : ∀ k, K ≤ k → span_right.l0 k all all.length (i + 1) all = R) :
    ∀ (r : List S45) (k : Nat) (j : Int), Lt x j r → SzA S r → K + r.length + 1 ≤ k → span_right.l1 k x all all.length i x x.length j all = if (r.all fun b => boundOk (toB b)) = true then (if x.length > 8 then some false else R) else some false
  | [], k, j, h, _, hk => by
    obtain ⟨k, rfl, hk'⟩ := pred (show K < k by simp at hk; omega)
    simp only [span_right.l1]
    rw [if_neg h.not_lt, hi, hR k (by simp at hk; omega), List.all_nil, if_pos rfl]
    by_cases h8 : x.length > 8
    · rw [if_pos h8, if_pos (by omega)]
    · rw [if_neg h8, if_neg (by omega)]
  | b :: r, k, j, h, hs, hk => by
    obtain ⟨k, rfl, hk'⟩ := pred (show K < k by simp at hk; omega)
    have hb : rd_T45 x j = b := h.rd _
    have hbs := hs b List.mem_cons_self
    have ih := pRight_l1 all hall S K hS hK R i hi x hxl hR r k (j + 1) h.next (fun c hc => hs c (List.mem_cons_of_mem _ hc)) (by simp at hk; omega)
    have hp : version_Print.f k b.f1.f0 b.f1.f1 b.f1.f2 b.f1.f3 = some (mk (printP (toV b.f1)).1, (printP (toV b.f1)).2) := print_eq k (toV b.f1) (by show b.f1.f3.size ≤ _; omega) (by show b.f1.f3.size + 10 < k; omega)
    have hp2 : (printP (toV b.f1)).2 = rightB (toV b.f1) := by unfold printP; split <;> simp_all
    have hO := pbound_ok b
    have hall2 : ((b :: r).all fun b => boundOk (toB b)) = (boundOk (toB b) && r.all fun b => boundOk (toB b)) := rfl
    simp only [span_right.l1]
    rw [if_pos h.lt, if_pos h.ge, if_pos h.lt, hb, hp, h.wrap (by omega)]
    simp only [Option.bind_some, hp2, ih]
    generalize (if x.length > 8 then some false else R) = Y
    by_cases hq : rightB (toV b.f1) = true
    · rw [if_pos hq]
      by_cases c1 : b.f0 < 1
      · rw [if_pos c1, if_neg (by rw [hall2, hO, decide_eq_false (by omega)]; simp)]
      · rw [if_neg c1]
        by_cases c2 : b.f0 > 5
        · rw [if_pos c2, if_neg (by rw [hall2, hO, decide_eq_false (by omega)]; simp)]
        · rw [if_neg c2]
          rw [decide_eq_true (show 1 ≤ b.f0 ∧ b.f0 ≤ 5 by omega), hq] at hO
          by_cases ha : (r.all fun b => boundOk (toB b)) = true
          · rw [if_pos ha, if_pos (by rw [hall2, hO, ha]; rfl)]
          · rw [if_neg ha, if_neg (by rw [hall2, hO]; simpa using ha)]
    · rw [Bool.not_eq_true] at hq
      rw [if_neg (by rw [hq]; decide), if_neg (c := ((b :: r).all fun b => boundOk (toB b)) = true) (by rw [hall2, hO, hq]; simp)]
theorem allB_toA (x : List S45) : (toA x).all boundOk = x.all fun b => boundOk (toB b) := by unfold toA; rw [List.all_map]; rfl
theorem pRight_l0 (all : List (List S45)) (hall : all.length ≤ 1000000) (S M C : Nat) (hM : M ≤ 1000000) (hS : S ≤ 1000000) (hC : S + 20 < C) : ∀ (rest : List (List S45)) (k : Nat) (i : Int), Lt all i rest → SzR S rest → (∀ x ∈ rest, x.length ≤ M) → (M + 2) * rest.length + C ≤ k →
    span_right.l0 k all all.length i all = some ((toR rest).all rightA && decide (1 ≤ all.length ∧ all.length ≤ 8))
  | [], k, i, h, _, _, hk => by
    obtain ⟨k, rfl, hk'⟩ := pred (show 0 < k by omega)
    simp only [span_right.l0]
    rw [if_neg h.not_lt]
    show _ = some (true && _)
    rw [Bool.true_and]
    by_cases h1 : (all.length : Int) ≥ 1
    · rw [if_pos h1]
      congr 1
      rw [decide_eq_decide]; omega
    · rw [if_neg h1, decide_eq_false (by omega)]
  | x :: rest, k, i, h, hs, hx, hk => by
    obtain ⟨k, rfl, hk'⟩ := pred (show 0 < k by omega)
    rw [List.length_cons, Nat.mul_add, Nat.mul_one] at hk
    have hr : rd_L4 all i = x := h.rd _
    have hxl := hx x List.mem_cons_self
    simp only [span_right.l0]
    rw [if_pos h.lt, if_pos h.ge, if_pos h.lt, hr]
    rw [pRight_l1 all hall S ((M + 2) * rest.length + C) hS (by omega) _ i (h.wrap (by omega)) x (by omega) (fun k hk => pRight_l0 all hall S M C hM hS hC rest k (i + 1) h.next (fun y hy => hs y (List.mem_cons_of_mem _ hy)) (fun y hy => hx y (List.mem_cons_of_mem _ hy)) hk) x k 0 (Lt.zero x) (hs x List.mem_cons_self) (by omega)]
    rw [toR_cons, List.all_cons, rightA_def, toA_len, allB_toA]
    by_cases ha : (x.all fun b => boundOk (toB b)) = true
    · rw [if_pos ha, ha, Bool.and_true]
      by_cases h8 : x.length > 8
      · rw [if_pos h8, decide_eq_false (show ¬ x.length ≤ 8 by omega)]; rfl
      · rw [if_neg h8, decide_eq_true (show x.length ≤ 8 by omega), Bool.true_and]
    · rw [if_neg ha]
      rw [Bool.not_eq_true] at ha
      rw [ha, Bool.and_false]; rfl
theorem pRight_eq (k : Nat) (all : List (List S45)) (S M : Nat) (hall : all.length ≤ 100000) (hM : M ≤ 100000) (hS : S ≤ 100000) (hs : SzR S all) (hx : ∀ x ∈ all, x.length ≤ M) (hk : (M + 2) * all.length + S + 21 ≤ k) : span_right.f k all = some (rightR (toR all)) := by
  unfold span_right.f rightR
  rw [pRight_l0 all (by omega) S M (S + 21) (by omega) (by omega) (by omega) all k 0 (Lt.zero all) hs hx (by omega), toR_len, Bool.and_comm]
theorem pgo_eq (k S : Nat) (hS : S ≤ 20000) : ∀ (ps : List (List UInt8)) (all : List (List S45)), (∀ p ∈ ps, p.length ≤ S) → SzR S all → (∀ x ∈ all, x.length ≤ 2 * S + 2) → all.length + ps.length ≤ 50000 → (2 * S + 4) * (all.length + ps.length) + S + 30 ≤ k →
    span_Parse.go k (ps.map mk) all = some (finS ((altsP ps).bind fun r => some (all ++ ofR r)))
  | [], all, _, hs, hx, ha, hk => by
    rw [List.map_nil, span_Parse.go, pRight_eq k all S (2 * S + 2) (by omega) (by omega) (by omega) hs hx (by rw [show 2 * S + 2 + 2 = 2 * S + 4 by omega]; simp at hk; omega)]
    simp only [Option.bind_some, altsP, ofR, List.map_nil, List.append_nil, finS]
    split <;> rfl
  | p :: ps, all, h, hs, hx, ha, hk => by
    rw [List.length_cons] at ha hk
    have hp := h p List.mem_cons_self
    have hcl := cuts_len 32 p
    have hmul : (2 * S + 4) * 1 ≤ (2 * S + 4) * (all.length + (ps.length + 1)) := Nat.mul_le_mul_left _ (by omega)
    rw [List.map_cons, span_Parse.go, if_pos (by rw [mk_size]; omega), if_pos (by omega), cutsL_mk, dl_mk]
    rw [pread_eq k S (by omega) (by omega) (cuts 32 p) [] (fun w hw => by have := cuts_le 32 p w hw; omega) (by simp; omega)]
    have hf := altP_filter (cuts 32 p)
    have hwd : (cuts 32 p).filter (fun w => !w.isEmpty) = words p := rfl
    rw [hwd] at hf
    rw [← hf]
    simp only [Option.bind_some, altsP, List.nil_append]
    cases hq : altP (words p) with
    | none => rfl
    | some a =>
      have hsz : SzP S a ∧ a.length ≤ 2 * S + 2 := by
        have gen : ∀ (ws : List (List UInt8)) (a : List Bd), altP ws = some a → (∀ w ∈ ws, w.length ≤ S) → SzP S a ∧ a.length ≤ 2 * ws.length := by
          intro ws
          induction ws with
          | nil => intro a h _; simp [altP] at h; subst h; exact ⟨fun b hb => by simp at hb, by simp⟩
          | cons w ws ih =>
            intro a h hw
            simp only [altP] at h
            obtain ⟨b, hb, h⟩ := Option.bind_eq_some_iff.1 h
            obtain ⟨c, hc, h⟩ := Option.bind_eq_some_iff.1 h
            obtain rfl := Option.some.inj h
            have h1 := wordP_len hb
            have h2 := ih c hc (fun x hx => hw x (List.mem_cons_of_mem _ hx))
            have h3 := hw w List.mem_cons_self
            refine ⟨fun x hx => (List.mem_append.1 hx).elim (fun hx => by have := h1.2 x hx; omega) (h2.1 x), by rw [List.length_append, List.length_cons]; omega⟩
        have hwl := words_len p
        have := gen (words p) a hq (fun w hw => by have := (words_mem hw).2; omega)
        exact ⟨this.1, by omega⟩
      simp only [Bool.true_eq_false, if_false, Option.bind_some]
      rw [pgo_eq k S hS ps (all ++ [ofA a]) (fun x hx => h x (List.mem_cons_of_mem _ hx))
        (fun x hx => (List.mem_append.1 hx).elim (hs x) (fun hx => by simp only [List.mem_singleton] at hx; subst hx; exact szA_ofA hsz.1))
        (fun x hm => (List.mem_append.1 hm).elim (hx x) (fun hm => by simp only [List.mem_singleton] at hm; subst hm; rw [ofA_len]; exact hsz.2))
        (by rw [List.length_append, List.length_singleton]; omega) (by rw [List.length_append, List.length_singleton, show all.length + 1 + ps.length = all.length + (ps.length + 1) by omega]; omega)]
      cases altsP ps with
      | none => rfl
      | some r => simp [ofR]
theorem pParse05_eq (k : Nat) (s : ByteArray) (hs : s.size ≤ 10000) (hk : 500000000 < k) : span_Parse.f k s = some (ofR (parseR (dl s)).1, (parseR (dl s)).2) := by
  have hl := cuts2_len (dl s)
  have h2 := dl_len s
  unfold span_Parse.f
  rw [if_pos (by omega), cutsD_eq]
  have hmul : (2 * 10000 + 4) * (0 + (cuts2 (dl s)).length) ≤ (2 * 10000 + 4) * 10001 := Nat.mul_le_mul_left _ (by omega)
  rw [pgo_eq k 10000 (by omega) (cuts2 (dl s)) [] (fun p hp => by have := cuts2_le _ p hp; omega) (fun l hl => by simp at hl) (fun x hx => by simp at hx) (by simp; omega) (by simp only [List.length_nil]; omega)]
  rw [finS_finR]; rfl
end Go.Proofs.YtijooffpjfhidaaGreatDoor.Vp
end
section
namespace Go.Proofs.YtijooffpjfhidaaGreatDoor.Vp
open Go Go.RowKit Go.Proofs.YtijooffpjfhidaaGreatDoorW.PrintWords Go.Proofs.YtijooffpjfhidaaGreatDoor.Txt Go.Proofs.YtijooffpjfhidaaGreatDoor.Trim Go.Proofs.YtijooffpjfhidaaGreatDoor.Num Go.Proofs.YtijooffpjfhidaaGreatDoor.Seq Go.Proofs.YtijooffpjfhidaaGreatDoor.G
theorem pholds_eq (k : Nat) (b : S45) (v : Ver) (hb : b.f1.f3.size ≤ 1000000) (hv : v.2.2.2.size ≤ 1000000) (hk : 10000000 < k) :
    span_holds.f k b.f0 b.f1.f0 b.f1.f1 b.f1.f2 b.f1.f3 v.1 v.2.1 v.2.2.1 v.2.2.2 = some (holdsB (toB b) v) := by
  unfold span_holds.f
  have e : version_Compare.f k v.1 v.2.1 v.2.2.1 v.2.2.2 b.f1.f0 b.f1.f1 b.f1.f2 b.f1.f3 = some (cmpT v (toB b).2) := pCompare_eq k v (toV b.f1) hv hb hk
  rw [e]; rfl
theorem pnear_eq (b : S45) (v : Ver) : span_near.f b.f0 b.f1.f0 b.f1.f1 b.f1.f2 b.f1.f3 v.1 v.2.1 v.2.2.1 v.2.2.2 = some (nearB (toB b) v) := by
  unfold span_near.f
  rw [toList_eq]
  have hn : nearB (toB b) v = (!(dl b.f1.f3).isEmpty && (decide (b.f1.f0 = v.1) && decide (b.f1.f1 = v.2.1) && decide (b.f1.f2 = v.2.2.1))) := rfl
  rw [hn]
  change (if dl b.f1.f3 = [] then _ else _) = _
  cases dl b.f1.f3 with
  | nil => rfl
  | cons c r =>
    rw [if_neg (by simp), Bool.and_assoc]; rfl
theorem pone_eq (k : Nat) (v : Ver) (hv : v.2.2.2.size ≤ 1000000) (hk : 10000000 < k) : ∀ (l : List S45) (may : Bool), SzA 1000000 l →
    span_Holds.one k v.1 v.2.1 v.2.2.1 v.2.2.2 l may = some (((toA l).all fun b => holdsB b v) && (may || (toA l).any fun b => nearB b v))
  | [], may, _ => by simp [span_Holds.one, toA]
  | b :: l, may, h => by
    rw [span_Holds.one, pholds_eq k b v (h b List.mem_cons_self) hv hk, pnear_eq, toA_cons]
    simp only [Option.bind_some, List.all_cons, List.any_cons]
    rw [pone_eq k v hv hk l _ (fun c hc => h c (List.mem_cons_of_mem _ hc))]
    cases holdsB (toB b) v <;> simp [Bool.or_assoc]
theorem pany_eq (k : Nat) (v : Ver) (hv : v.2.2.2.size ≤ 1000000) (hk : 10000000 < k) : ∀ r : List (List S45), SzR 1000000 r →
    span_Holds.any k v.1 v.2.1 v.2.2.1 v.2.2.2 r = some ((toR r).any fun l => letsA l v)
  | [], _ => rfl
  | l :: r, h => by
    rw [span_Holds.any, pone_eq k v hv hk l _ (h l List.mem_cons_self), pany_eq k v hv hk r (fun x hx => h x (List.mem_cons_of_mem _ hx)), toR_cons, List.any_cons, toList_eq]
    have : letsA (toA l) v = (((toA l).all fun b => holdsB b v) && (v.2.2.2.data.toList.isEmpty || (toA l).any fun b => nearB b v)) := rfl
    rw [this]
    simp only [Option.bind_some]
    cases (((toA l).all fun b => holdsB b v) && (v.2.2.2.data.toList.isEmpty || (toA l).any fun b => nearB b v)) <;> simp
theorem printP_ok (v : Ver) : (printP v).2 = rightB v := by
  unfold printP
  cases rightB v <;> rfl
theorem pHolds05_eq (k : Nat) (r : List (List S45)) (v : Ver) (hs : SzR 100000 r) (hx : ∀ x ∈ r, x.length ≤ 1000) (hl : r.length ≤ 1000) (hv : v.2.2.2.size ≤ 1000000) (hk : 20000000 < k) :
    span_Holds.f k r v.1 v.2.1 v.2.2.1 v.2.2.2 = some (holdsR (toR r) v) := by
  have hmul : (1000 + 2) * r.length ≤ (1000 + 2) * 1000 := Nat.mul_le_mul_left _ hl
  unfold span_Holds.f holdsR
  rw [print_eq k v (by omega) (by omega), pRight_eq k r 100000 1000 (by omega) (by omega) (by omega) hs hx (by omega), pany_eq k v hv (by omega) r (fun l hl b hb => by have := hs l hl b hb; omega)]
  simp only [Option.bind_some, printP_ok]
  cases rightB v <;> cases rightR (toR r) <;> simp
theorem signs_op (o : Int) (h1 : 1 ≤ o) (h5 : o ≤ 5) (s : ByteArray) (hs : s.size ≤ 1000000) (ws : List ByteArray) (hw : ws.length ≤ 1000000) : span_Print.sg o s span_Print.signs ws = some (ws ++ [mk (sgn o ++ dl s)]) := by
  have e : ∀ l : List UInt8, mk l ++ s = mk (l ++ dl s) := fun l => by have := mk_append l (dl s); rwa [mk_dl] at this
  have z1 : ∀ a : UInt8, (⟨#[a]⟩ : ByteArray).size = 1 := fun _ => rfl
  have z2 : ∀ a b : UInt8, (⟨#[a, b]⟩ : ByteArray).size = 2 := fun _ _ => rfl
  have c : o = 1 ∨ o = 2 ∨ o = 3 ∨ o = 4 ∨ o = 5 := by omega
  have a1 : ws.length < 8796093022208 := by omega
  have a2 : 1 + s.size ≤ 9223372036854775807 := by omega
  have a3 : 2 + s.size ≤ 9223372036854775807 := by omega
  rcases c with rfl | rfl | rfl | rfl | rfl <;>
  · simp only [span_Print.signs, span_Print.sg, z1, z2, a1, a2, a3, if_true, sgn]
    first | (simp; done) | (simp; exact e _)
theorem ppr_ok (k : Nat) (b : S45) (hb : b.f1.f3.size ≤ 100000) (hk : 1000000 < k) (ho : boundOk (toB b) = true) : version_Print.f k b.f1.f0 b.f1.f1 b.f1.f2 b.f1.f3 = some (mk (told (toV b.f1)), true) := by
  have h := print_eq k (toV b.f1) (by show b.f1.f3.size ≤ _; omega) (by show b.f1.f3.size + 10 < k; omega)
  have hr : rightB (toV b.f1) = true := by have := ho; rw [pbound_ok, Bool.and_eq_true] at this; exact this.2
  unfold printP at h
  rw [if_pos hr] at h
  exact h
theorem prow_eq (k : Nat) (hk : 1000000 < k) : ∀ (l : List S45) (ws : List ByteArray), SzA 100000 l → (toA l).all boundOk = true → ws.length + l.length ≤ 100000 →
    span_Print.row k l ws = some (ws ++ (toA l).map fun b => mk (wordB b))
  | [], ws, _, _, _ => by simp [span_Print.row, toA]
  | b :: l, ws, h, ho, hw => by
    rw [toA_cons, List.all_cons, Bool.and_eq_true] at ho
    rw [List.length_cons] at hw
    have hb := h b List.mem_cons_self
    have hbl := wordB_len ho.1
    have hwb : wordB (toB b) = sgn b.f0 ++ told (toV b.f1) := rfl
    rw [hwb, List.length_append] at hbl
    have h15 : 1 ≤ b.f0 ∧ b.f0 ≤ 5 := by have := ho.1; rw [pbound_ok, Bool.and_eq_true] at this; exact of_decide_eq_true this.1
    rw [span_Print.row, ppr_ok k b hb hk ho.1]
    simp only [Option.bind_some]
    rw [signs_op b.f0 h15.1 h15.2 _ (by rw [mk_size]; omega) ws (by omega)]
    simp only [Option.bind_some, dl_mk]
    rw [prow_eq k hk l _ (fun c hc => h c (List.mem_cons_of_mem _ hc)) ho.2 (by rw [List.length_append, List.length_singleton]; omega), toA_cons]
    simp [hwb]
theorem join_two (x y : List UInt8) (t : List (List UInt8)) (sep : List UInt8) : Lib.join (x :: y :: t) sep = x ++ sep ++ Lib.join (y :: t) sep := by
  rw [Lib.join_cons, Lib.join_cons]
  simp [Lib.joinTail]
theorem join_C (c : UInt8) : ∀ l : List (List UInt8), Lib.join l [c] = joinC c l
  | [] => Lib.join_nil _
  | [x] => Lib.join_one _ _
  | x :: y :: t => by
    rw [join_two, join_C c (y :: t), joinC_cons c x (by simp)]; simp
theorem join_D : ∀ l : List (List UInt8), Lib.join l [32, 124, 124, 32] = joinD l
  | [] => Lib.join_nil _
  | [x] => Lib.join_one _ _
  | x :: y :: t => by
    rw [join_two, join_D (y :: t), joinD_cons x (by simp)]; simp
theorem sjoin_eq (l : List (List UInt8)) (sep : List UInt8) (h1 : l.length ≤ 140737488355328) (h2 : (Lib.join l sep).length ≤ 140737488355328) : strings_Join.f (l.map mk) (mk sep) = some (mk (Lib.join l sep)) := by
  unfold strings_Join.f
  have e : (l.map mk).map (·.data.toList) = l := map_dl_mk l
  have e2 : (mk sep).data.toList = sep := rfl
  rw [List.length_map, if_pos h1, e, e2, if_pos h2]; rfl
theorem bodyA_len : ∀ (l : List S45), (toA l).all boundOk = true → (tailA (toA l)).length ≤ lenA l ∧ (bodyA (toA l)).length ≤ lenA l
  | [], _ => ⟨by simp [toA, tailA], by simp [toA, bodyA]⟩
  | b :: l, h => by
    rw [toA_cons, List.all_cons, Bool.and_eq_true] at h
    have ih := bodyA_len l h.2
    have hb := wordB_len h.1
    have hl : lenA (b :: l) = 30 + b.f1.f3.size + lenA l := by simp [lenA]
    rw [toA_cons, hl]
    simp only [tailA, bodyA, List.length_cons, List.length_append]
    omega
theorem wordA_len (l : List S45) (h : (toA l).all boundOk = true) : (wordA (toA l)).length ≤ lenA l + 1 := by
  rw [wordA_body]
  have := (bodyA_len l h).2
  split
  · simp
  · omega
theorem tailD_len : ∀ (r : List (List S45)), (toR r).all rightA = true → (tailD (toR r)).length ≤ lenR r
  | [], _ => by simp [toR, tailD]
  | l :: r, h => by
    rw [toR_cons, List.all_cons, Bool.and_eq_true, rightA_def, Bool.and_eq_true] at h
    have ih := tailD_len r h.2
    have hw := wordA_len l h.1.2
    have hl : lenR (l :: r) = 10 + lenA l + lenR r := by simp [lenR]
    rw [toR_cons, hl]
    simp only [tailD, List.length_cons, List.length_append]
    omega
theorem joinD_len (r : List (List S45)) (h : (toR r).all rightA = true) : (joinD ((toR r).map wordA)).length ≤ lenR r := by
  cases r with
  | nil => simp [toR, joinD]
  | cons l r =>
    have h' := h
    rw [toR_cons, List.all_cons, Bool.and_eq_true, rightA_def, Bool.and_eq_true] at h
    rw [toR_cons, joinD_tail, List.length_append]
    have h1 := wordA_len l h.1.2
    have h2 := tailD_len r h.2
    have hl : lenR (l :: r) = 10 + lenA l + lenR r := by simp [lenR]
    omega
theorem pgo05_eq (k : Nat) (hk : 1000000 < k) : ∀ (r : List (List S45)) (all : List ByteArray), SzR 100000 r → (toR r).all rightA = true → all.length + r.length ≤ 100000 →
    span_Print.go k r all = some (all ++ (toR r).map fun l => mk (wordA l))
  | [], all, _, _, _ => by simp [span_Print.go, toR]
  | l :: r, all, h, ho, ha => by
    rw [toR_cons, List.all_cons, Bool.and_eq_true, rightA_def, Bool.and_eq_true, toA_len] at ho
    rw [List.length_cons] at ha
    have h8 := of_decide_eq_true ho.1.1
    rw [span_Print.go, prow_eq k hk l [] (h l List.mem_cons_self) ho.1.2 (by simp; omega)]
    simp only [Option.bind_some, List.nil_append]
    have hsz : lenA l ≤ 8 * 100030 := by
      have gen : ∀ (l : List S45), SzA 100000 l → lenA l ≤ l.length * 100030 := by
        intro l
        induction l with
        | nil => intro _; simp [lenA]
        | cons b l ih =>
          intro h
          have := ih (fun c hc => h c (List.mem_cons_of_mem _ hc))
          have hb := h b List.mem_cons_self
          have hl : lenA (b :: l) = 30 + b.f1.f3.size + lenA l := by simp [lenA]
          rw [hl, List.length_cons, Nat.add_mul]; omega
      have := gen l (h l List.mem_cons_self)
      exact Nat.le_trans this (Nat.mul_le_mul_right 100030 h8)
    have hj : strings_Join.f (if ((toA l).map fun b => mk (wordB b)).length = 0 then [⟨#[42]⟩] else (toA l).map fun b => mk (wordB b)) ⟨#[32]⟩ = some (mk (wordA (toA l))) := by
      have e32 : (⟨#[32]⟩ : ByteArray) = mk [32] := rfl
      rw [List.length_map, toA_len, e32]
      cases l with
      | nil =>
        rw [if_pos (show ([] : List S45).length = 0 from rfl)]
        exact sjoin_eq [[42]] [32] (by decide) (by rw [join_C]; decide)
      | cons b l =>
        have hne : toA (b :: l) ≠ [] := by rw [toA_cons]; simp
        have e1 : ((toA (b :: l)).map fun b => mk (wordB b)) = ((toA (b :: l)).map wordB).map mk := by rw [List.map_map]; rfl
        have hb := (bodyA_len (b :: l) ho.1.2).2
        rw [if_neg (by simp), e1, sjoin_eq _ _ (by rw [List.length_map, toA_len]; omega) (by rw [join_C, joinC_body]; omega), join_C, joinC_body, wordA_body, if_neg hne]
    rw [hj]
    simp only [Option.bind_some]
    rw [if_pos (by omega), pgo05_eq k hk r _ (fun x hx => h x (List.mem_cons_of_mem _ hx)) ho.2 (by rw [List.length_append, List.length_singleton]; omega), toR_cons]
    simp
theorem lenR_le (r : List (List S45)) (S M : Nat) (hs : SzR S r) (hx : ∀ x ∈ r, x.length ≤ M) : lenR r ≤ r.length * (10 + M * (30 + S)) := by
  have gen : ∀ (l : List S45), SzA S l → lenA l ≤ l.length * (30 + S) := by
    intro l
    induction l with
    | nil => intro _; simp [lenA]
    | cons b l ih =>
      intro h
      have := ih (fun c hc => h c (List.mem_cons_of_mem _ hc))
      have hb := h b List.mem_cons_self
      have hl : lenA (b :: l) = 30 + b.f1.f3.size + lenA l := by simp [lenA]
      rw [hl, List.length_cons, Nat.add_mul]; omega
  induction r with
  | nil => simp [lenR]
  | cons l r ih =>
    have h1 := ih (fun x hx => hs x (List.mem_cons_of_mem _ hx)) (fun y hy => hx y (List.mem_cons_of_mem _ hy))
    have h2 := gen l (hs l List.mem_cons_self)
    have h3 : l.length * (30 + S) ≤ M * (30 + S) := Nat.mul_le_mul_right _ (hx l List.mem_cons_self)
    have hl : lenR (l :: r) = 10 + lenA l + lenR r := by simp [lenR]
    rw [hl, List.length_cons, Nat.add_mul]; omega
theorem pPrint05_eq (k : Nat) (r : List (List S45)) (hs : SzR 100000 r) (hx : ∀ x ∈ r, x.length ≤ 1000) (hl : r.length ≤ 1000) (hk : 20000000 < k) : span_Print.f k r = some (mk (printR (toR r)).1, (printR (toR r)).2) := by
  have hmul : (1000 + 2) * r.length ≤ (1000 + 2) * 1000 := Nat.mul_le_mul_left _ hl
  unfold span_Print.f printR
  rw [pRight_eq k r 100000 1000 (by omega) (by omega) (by omega) hs hx (by omega)]
  simp only [Option.bind_some]
  by_cases h : rightR (toR r) = true
  · have hm := rightR_mem h
    rw [toR_len] at hm
    have hall := List.all_eq_true.2 hm.2
    have hlen := lenR_le r 100000 1000 hs hx
    have hmul2 : r.length * (10 + 1000 * (30 + 100000)) ≤ 1000 * (10 + 1000 * (30 + 100000)) := Nat.mul_le_mul_right _ hl
    have hjl := joinD_len r hall
    rw [h, if_neg (by decide), if_pos rfl, pgo05_eq k (by omega) r [] hs hall (by simp; omega)]
    simp only [Option.bind_some, List.nil_append, span_Print.fin]
    have e1 : ((toR r).map fun l => mk (wordA l)) = ((toR r).map wordA).map mk := by rw [List.map_map]; rfl
    have e2 : (⟨#[32, 124, 124, 32]⟩ : ByteArray) = mk [32, 124, 124, 32] := rfl
    rw [e1, e2, sjoin_eq _ _ (by rw [List.length_map, toR_len]; omega) (by rw [join_D]; omega), join_D]
    rfl
  · rw [Bool.not_eq_true] at h
    rw [h, if_pos rfl, if_neg (by decide)]; rfl
theorem joinC_len (c : UInt8) : ∀ (ls : List (List UInt8)) (n : Nat), (∀ x ∈ ls, x.length ≤ n) → (joinC c ls).length ≤ ls.length * (n + 1)
  | [], n, _ => by simp [joinC]
  | [x], n, h => by have := h x List.mem_cons_self; simp [joinC]; omega
  | x :: y :: t, n, h => by
    have ih := joinC_len c (y :: t) n (fun z hz => h z (List.mem_cons_of_mem _ hz))
    have hx := h x List.mem_cons_self
    rw [joinC_cons c x (by simp), List.length_append, List.length_cons, List.length_cons, Nat.add_mul]; omega
theorem right_sz {v : Ver} (h : rightB v = true) : v.2.2.2.size ≤ 55 := by
  have hp := (right_nums h).2.2.2
  rw [← dl_len]
  unfold preB at hp
  rw [Bool.or_eq_true] at hp
  rcases hp with hp | hp
  · cases hd : dl v.2.2.2 with
    | nil => simp
    | cons => rw [hd] at hp; simp at hp
  · rw [Bool.and_eq_true] at hp
    have h5 := of_decide_eq_true hp.2
    have hl := joinC_len 46 (cuts 46 (dl v.2.2.2)) 10 (fun x hx => by
      have := List.all_eq_true.1 hp.1 x hx
      unfold partB at this
      simp only [Bool.and_eq_true] at this
      exact of_decide_eq_true this.1.1.2)
    rw [cuts_join] at hl
    have : (cuts 46 (dl v.2.2.2)).length * (10 + 1) ≤ 5 * (10 + 1) := Nat.mul_le_mul_right _ h5
    omega
theorem right_small {r : List (List S45)} (h : rightR (toR r) = true) : SzR 55 r ∧ (∀ x ∈ r, x.length ≤ 8) ∧ r.length ≤ 8 ∧ (wordR (toR r)).length ≤ 6000 := by
  have hm := rightR_mem h
  rw [toR_len] at hm
  have hA : ∀ l ∈ r, rightA (toA l) = true := fun l hl => hm.2 (toA l) (List.mem_map_of_mem hl)
  have h1 : SzR 55 r := fun l hl b hb => right_sz ((rightA_mem (hA l hl)).2 (toB b) (List.mem_map_of_mem hb)).2
  have h2 : ∀ x ∈ r, x.length ≤ 8 := fun x hx => by have := (rightA_mem (hA x hx)).1; rwa [toA_len] at this
  refine ⟨h1, h2, hm.1.2, ?_⟩
  have hlen := lenR_le r 55 8 h1 h2
  have hmul : r.length * (10 + 8 * (30 + 55)) ≤ 8 * (10 + 8 * (30 + 55)) := Nat.mul_le_mul_right _ hm.1.2
  have := joinD_len r (List.all_eq_true.2 hm.2)
  unfold wordR
  omega
theorem small_nil : SzR 55 ([] : List (List S45)) ∧ (∀ x ∈ ([] : List (List S45)), x.length ≤ 8) ∧ ([] : List (List S45)).length ≤ 8 := ⟨fun l hl => by simp at hl, fun l hl => by simp at hl, by simp⟩
theorem parse_small (s : List UInt8) : SzR 55 (ofR (parseR s).1) ∧ (∀ x ∈ ofR (parseR s).1, x.length ≤ 8) ∧ (ofR (parseR s).1).length ≤ 8 := by
  cases h : parseR s with
  | mk r t =>
    cases t with
    | true =>
      have := right_small (r := ofR r) (by rw [toR_ofR]; exact parseR_right h)
      exact ⟨this.1, this.2.1, this.2.2.1⟩
    | false =>
      obtain rfl := parseR_none h
      exact small_nil
theorem SzR.up {n m : Nat} {r : List (List S45)} (h : SzR n r) (hm : n ≤ m) : SzR m r := fun l hl b hb => Nat.le_trans (h l hl b hb) hm
def wordT (s : List UInt8) : List UInt8 := if (parseR s).2 = true then (if (printR (parseR s).1).2 = true then (printR (parseR s).1).1 else [110, 111, 110, 101]) else [110, 111, 110, 101]
theorem word_eq (k : Nat) (s : ByteArray) (hs : s.size ≤ 10000) (hk : 500000000 < k) : hoggetlaw05_word.f k s = some (mk (wordT (dl s))) := by
  have h := parse_small (dl s)
  unfold hoggetlaw05_word.f wordT
  rw [pParse05_eq k s hs hk]
  simp only [Option.bind_some]
  rw [pPrint05_eq k _ (h.1.up (by omega)) (fun x hx => by have := h.2.1 x hx; omega) (by omega) (by omega), toR_ofR]
  simp only [Option.bind_some]
  (repeat' split) <;> rfl
def holdsT (s t : List UInt8) : Bool := (parseR s).2 && ((parseP t).2 && holdsR (parseR s).1 (parseP t).1)
theorem holds_eq (k : Nat) (s t : ByteArray) (hs : s.size ≤ 10000) (ht : t.size ≤ 10000) (hk : 500000000 < k) : hoggetlaw05_holds.f k s t = some (holdsT (dl s) (dl t)) := by
  have h := parse_small (dl s)
  have h2 := parse_sz (dl t)
  have h3 := dl_len t
  unfold hoggetlaw05_holds.f holdsT
  rw [pParse05_eq k s hs hk, pParse_eq k t (by omega) (by omega)]
  simp only [Option.bind_some, flat5]
  rw [pHolds05_eq k _ (parseP (dl t)).1 (h.1.up (by omega)) (fun x hx => by have := h.2.1 x hx; omega) (by omega) (by omega) (by omega), toR_ofR]
  simp only [Option.bind_some]
  cases (parseR (dl s)).2 <;> cases (parseP (dl t)).2 <;> simp
theorem w1 : wordT [94, 49, 46, 50, 46, 51] = [62, 61, 49, 46, 50, 46, 51, 32, 60, 50, 46, 48, 46, 48] := by decide +kernel
theorem w2 : wordT [94, 48, 46, 50, 46, 51] = [62, 61, 48, 46, 50, 46, 51, 32, 60, 48, 46, 51, 46, 48] := by decide +kernel
theorem w3 : wordT [94, 48, 46, 48, 46, 51] = [62, 61, 48, 46, 48, 46, 51, 32, 60, 48, 46, 48, 46, 52] := by decide +kernel
theorem w4 : wordT [126, 49, 46, 50, 46, 51] = [62, 61, 49, 46, 50, 46, 51, 32, 60, 49, 46, 51, 46, 48] := by decide +kernel
theorem w5 : wordT [] = [42] := by decide +kernel
theorem w6 : wordT [49, 46, 48, 46, 48, 124, 124, 62, 50, 46, 48, 46, 48, 32, 42] = [61, 49, 46, 48, 46, 48, 32, 124, 124, 32, 62, 50, 46, 48, 46, 48] := by decide +kernel
theorem w7 : wordT [49, 46, 48] = [110, 111, 110, 101] := by decide +kernel
theorem w8 : wordT [94, 57, 57, 57, 57, 57, 57, 46, 48, 46, 48] = [110, 111, 110, 101] := by decide +kernel
theorem v1 : holdsT [94, 49, 46, 50, 46, 51] [49, 46, 50, 46, 52, 45, 97] = false := by decide +kernel
theorem v2 : holdsT [94, 49, 46, 50, 46, 51] [49, 46, 57, 46, 48] = true := by decide +kernel
theorem v3 : holdsT [62, 61, 49, 46, 50, 46, 51, 45, 97] [49, 46, 50, 46, 51, 45, 98] = true := by decide +kernel
theorem spans_eq (k : Nat) (hk : 500000001 < k) : hoggetlaw05_spans.f k = some true := by
  have W : ∀ (k : Nat) (s : ByteArray) (t : List UInt8), s.size ≤ 10000 → wordT (dl s) = t → 500000000 < k → hoggetlaw05_word.f k s = some (mk t) := fun k s t hs h hk => by rw [word_eq k s hs hk, h]
  have V : ∀ (k : Nat) (s u : ByteArray) (t : Bool), s.size ≤ 10000 → u.size ≤ 10000 → holdsT (dl s) (dl u) = t → 500000000 < k → hoggetlaw05_holds.f k s u = some t := fun k s u t hs hu h hk => by rw [holds_eq k s u hs hu hk, h]
  unfold hoggetlaw05_spans.f
  rw [W k ⟨#[94, 49, 46, 50, 46, 51]⟩ _ (by decide) w1 (by omega)]
  simp only [Option.bind_some, mk_toList, if_true]
  rw [W k ⟨#[94, 48, 46, 50, 46, 51]⟩ _ (by decide) w2 (by omega)]
  simp only [Option.bind_some, mk_toList, if_true]
  rw [W k ⟨#[94, 48, 46, 48, 46, 51]⟩ _ (by decide) w3 (by omega)]
  simp only [Option.bind_some, mk_toList, if_true]
  rw [W k ⟨#[126, 49, 46, 50, 46, 51]⟩ _ (by decide) w4 (by omega)]
  simp only [Option.bind_some, mk_toList, if_true]
  rw [W k ⟨#[]⟩ _ (by decide) w5 (by omega)]
  simp only [Option.bind_some, mk_toList, if_true]
  rw [W k ⟨#[49, 46, 48, 46, 48, 124, 124, 62, 50, 46, 48, 46, 48, 32, 42]⟩ _ (by decide) w6 (by omega)]
  simp only [Option.bind_some, mk_toList, beq_self_eq_true]
  obtain ⟨k, rfl, hk'⟩ := pred hk
  simp only [hoggetlaw05_spans.j0, if_true]
  rw [V k ⟨#[94, 49, 46, 50, 46, 51]⟩ ⟨#[49, 46, 50, 46, 52, 45, 97]⟩ _ (by decide) (by decide) v1 (by omega)]
  simp only [Option.bind_some, Bool.false_eq_true, if_false]
  rw [V k ⟨#[94, 49, 46, 50, 46, 51]⟩ ⟨#[49, 46, 57, 46, 48]⟩ _ (by decide) (by decide) v2 (by omega)]
  simp only [Option.bind_some, if_true]
  rw [V k ⟨#[62, 61, 49, 46, 50, 46, 51, 45, 97]⟩ ⟨#[49, 46, 50, 46, 51, 45, 98]⟩ _ (by decide) (by decide) v3 (by omega)]
  simp only [Option.bind_some, if_true]
  rw [W k ⟨#[49, 46, 48]⟩ _ (by decide) w7 (by omega)]
  simp only [Option.bind_some, mk_toList, if_true]
  rw [W k ⟨#[94, 57, 57, 57, 57, 57, 57, 46, 48, 46, 48]⟩ _ (by decide) w8 (by omega)]
  simp
end Go.Proofs.YtijooffpjfhidaaGreatDoor.Vp
end
section
namespace Go.Proofs.YtijooffpjfhidaaGreatDoor.Vp
open Go Go.RowKit Go.Proofs.YtijooffpjfhidaaGreatDoor.Txt Go.Proofs.YtijooffpjfhidaaGreatDoor.Trim Go.Proofs.YtijooffpjfhidaaGreatDoor.Num
theorem cmpT_self {v : Ver} (h : rightB v = true) : cmpT v v = 0 := by
  unfold cmpT
  rw [if_pos ⟨h, h⟩]
  exact cmpV_ord.refl v
theorem cmpI_up (a : Int) : cmpI a (a + 1) = -1 := by unfold cmpI; rw [if_pos (by omega)]
theorem cmpI_same (a : Int) : cmpI a a = 0 := by unfold cmpI; rw [if_neg (by omega), if_neg (by omega)]
theorem cmpV_next (v : Ver) (t : Bool) : cmpV v (nextV v t) = -1 := by
  unfold nextV cmpV
  by_cases ht : t = true
  · rw [if_pos ht]
    simp only [cmpI_same, cmpI_up]
    simp
  · rw [if_neg ht]
    by_cases h1 : v.1 > 0
    · rw [if_pos h1]
      simp only [cmpI_up]
      simp
    · rw [if_neg h1]
      by_cases h2 : v.2.1 > 0
      · rw [if_pos h2]
        simp only [cmpI_same, cmpI_up]
        simp
      · rw [if_neg h2]
        simp only [cmpI_same, cmpI_up]
        simp
theorem near_self (o : Int) (v : Ver) : ((dl v.2.2.2).isEmpty || nearB (o, v) v) = true := by
  unfold nearB
  cases (dl v.2.2.2).isEmpty <;> simp
theorem parse_one {w : List UInt8} (h32 : (32 : UInt8) ∉ w) (h124 : (124 : UInt8) ∉ w) (hne : w ≠ []) {a : List Bd} (h : wordP w = some a) : parseR w = finR (some [a]) := by
  unfold parseR
  rw [cuts2_none h124]
  simp only [altsP, words_one h32 hne, altP, h, Option.bind_some, List.append_nil]
theorem sign_told {v : Ver} (h : rightB v = true) (c : UInt8) (hc : c ≠ 32 ∧ c ≠ 124) : (32 : UInt8) ∉ c :: told v ∧ (124 : UInt8) ∉ c :: told v ∧ c :: told v ≠ [] := by
  have h32 := told_no h (c := 32) (by decide) (by decide)
  have h124 := told_no h (c := 124) (by decide) (by decide)
  simp only [List.mem_cons, not_or]
  exact ⟨⟨hc.1.symm, h32⟩, ⟨hc.2.symm, h124⟩, by simp⟩
theorem rightR_one (l : List Bd) : rightR [l] = rightA l := by
  unfold rightR
  simp
theorem finR_one (l : List Bd) : finR (some [l]) = if rightA l = true then ([l], true) else ([], false) := by
  simp only [finR, rightR_one]
theorem holdsR_one (l : List Bd) (v : Ver) : holdsR [l] v = (rightA l && rightB v && letsA l v) := by
  unfold holdsR
  rw [rightR_one]
  simp
theorem parse_wide {v : Ver} (h : rightB v = true) (c : UInt8) (hc : c = 94 ∨ c = 126) : parseR (c :: told v) = if rightB (nextV v (decide (c = 126))) = true then ([[(5, v), (2, nextV v (decide (c = 126)))]], true) else ([], false) := by
  have hs := sign_told h c (by rcases hc with rfl | rfl <;> decide)
  have hw : wordP (c :: told v) = some [(5, v), (2, nextV v (decide (c = 126)))] := by
    simp only [wordP]
    rw [if_neg (fun e => by rcases hc with rfl | rfl <;> exact absurd e.1 (by decide)), if_pos hc, parse_told h, if_pos rfl]
  rw [parse_one hs.1 hs.2.1 hs.2.2 hw, finR_one]
  have e : rightA [(5, v), (2, nextV v (decide (c = 126)))] = rightB (nextV v (decide (c = 126))) := by
    rw [rightA_def]
    simp [boundOk, h]
  rw [e]
theorem holds_wide {v : Ver} (h : rightB v = true) (t : Bool) (hn : rightB (nextV v t) = true) : holdsR [[(5, v), (2, nextV v t)]] v = true := by
  have e : rightA [(5, v), (2, nextV v t)] = true := by rw [rightA_def]; simp [boundOk, h, hn]
  have c1 := cmpT_self h
  have c2 : cmpT v (nextV v t) = -1 := by unfold cmpT; rw [if_pos ⟨h, hn⟩]; exact cmpV_next v t
  have hb1 : holdsB (5, v) v = true := by simp [holdsB, c1]
  have hb2 : holdsB (2, nextV v t) v = true := by simp [holdsB, c2]
  have hnr := near_self 5 v
  rw [holdsR_one, e, h]
  unfold letsA
  simp only [List.all_cons, List.all_nil, hb1, hb2, List.any_cons, List.any_nil, Bool.and_true, Bool.true_and, Bool.or_false]
  cases hd : (dl v.2.2.2).isEmpty with
  | true => rfl
  | false => rw [hd, Bool.false_or] at hnr; rw [hnr]; rfl
theorem parse_sign {v : Ver} (h : rightB v = true) (o : Int) (h1 : 1 ≤ o) (h5 : o ≤ 5) : parseR (sgn o ++ told v) = ([[(o, v)]], true) := by
  have hw := wordP_wordB (b := (o, v)) h1 h5 h
  have hno := wordB_no (b := (o, v)) h
  have := parse_one hno.1 hno.2.1 hno.2.2 hw
  have e : rightA [(o, v)] = true := by rw [rightA_def]; simp [boundOk, h]; omega
  rw [finR_one, if_pos e] at this
  exact this
theorem parse_bare {v : Ver} (h : rightB v = true) : parseR (told v) = ([[(1, v)]], true) := by
  obtain ⟨c, r, hc, hd⟩ := told_head (v := v)
  have h32 := told_no h (c := 32) (by decide) (by decide)
  have h124 := told_no h (c := 124) (by decide) (by decide)
  have hdd := dig_iff.1 hd
  have hw : wordP (told v) = some [(1, v)] := by
    rw [hc]
    simp only [wordP]
    rw [if_neg (fun e => by rw [e.1] at hdd; exact absurd hdd (by decide)), if_neg (fun e => by rcases e with e | e <;> (rw [e] at hdd; exact absurd hdd (by decide))), opW_plain hd, ← hc, parse_told h, if_pos rfl]
  have := parse_one h32 h124 (by rw [hc]; simp) hw
  have e : rightA [(1, v)] = true := by rw [rightA_def]; simp [boundOk, h]
  rw [finR_one, if_pos e] at this
  exact this
theorem holds_one {v w : Ver} (h : rightB v = true) (hw : rightB w = true) (o : Int) (h1 : 1 ≤ o) (h5 : o ≤ 5) (hp : (dl v.2.2.2).isEmpty = true ∨ w = v) : holdsR [[(o, w)]] v = holdsB (o, w) v := by
  have e : rightA [(o, w)] = true := by rw [rightA_def]; simp [boundOk, hw]; omega
  rw [holdsR_one, e, h]
  unfold letsA
  simp only [List.all_cons, List.all_nil, List.any_cons, List.any_nil, Bool.and_true, Bool.true_and, Bool.or_false]
  rcases hp with hp | rfl
  · rw [hp]; simp
  · rw [near_self]; simp
theorem holds_self {v : Ver} (h : rightB v = true) : holdsR [[(1, v)]] v = true ∧ holdsR [[(2, v)]] v = false ∧ holdsR [[(4, v)]] v = false := by
  have c := cmpT_self h
  rw [holds_one h h 1 (by omega) (by omega) (.inr rfl), holds_one h h 2 (by omega) (by omega) (.inr rfl), holds_one h h 4 (by omega) (by omega) (.inr rfl)]
  simp [holdsB, c]
end Go.Proofs.YtijooffpjfhidaaGreatDoor.Vp
end
section
namespace Go.Proofs.YtijooffpjfhidaaGreatDoor.Vp
open Go Go.RowKit Go.Proofs.YtijooffpjfhidaaGreatDoorW.PrintWords Go.Proofs.YtijooffpjfhidaaGreatDoor.Txt Go.Proofs.YtijooffpjfhidaaGreatDoor.Trim Go.Proofs.YtijooffpjfhidaaGreatDoor.Num Go.Proofs.YtijooffpjfhidaaGreatDoor.Seq Go.Proofs.YtijooffpjfhidaaGreatDoor.G
theorem parse_holds (k : Nat) (s : ByteArray) (hs : s.size ≤ 10000) (hk : 500000000 < k) (v : Ver) (hv : v.2.2.2.size ≤ 1000000) :
    span_Holds.f k (ofR (parseR (dl s)).1) v.1 v.2.1 v.2.2.1 v.2.2.2 = some (holdsR (parseR (dl s)).1 v) := by
  have h := parse_small (dl s)
  rw [pHolds05_eq k _ v (h.1.up (by omega)) (fun x hx => by have := h.2.1 x hx; omega) (by omega) hv (by omega), toR_ofR]
theorem wide_holds {v : Ver} (h : rightB v = true) (c : UInt8) (hc : c = 94 ∨ c = 126) (hp : (parseR (c :: told v)).2 = true) : holdsR (parseR (c :: told v)).1 v = true := by
  rw [parse_wide h c hc] at hp ⊢
  by_cases hn : rightB (nextV v (decide (c = 126))) = true
  · rw [if_pos hn]; exact holds_wide h _ hn
  · rw [if_neg hn] at hp; exact absurd hp (by decide)
theorem SpanSelf (x y z : Int) (p : ByteArray) (hp : p.size ≤ 140737488351232) : ∃ k, hoggetlaw05_SpanSelf.f k x y z p = some true := by
  obtain ⟨K, hK⟩ : ∃ K, K = 140737488351232 + 500000100 := ⟨_, rfl⟩
  refine ⟨K + 1, ?_⟩
  have e1 := print_eq (K + 1) (x, y, z, p) hp (by show p.size + 10 < _; omega)
  simp only at e1
  have e2 : ∀ t, hoggetlaw05_SpanSelf.j0 (K + 1) t true x y z p = some true := fun t => by
    simp only [hoggetlaw05_SpanSelf.j0, if_true]
    rw [spans_eq K (by omega)]
    rfl
  unfold hoggetlaw05_SpanSelf.f hoggetref04_Big.f
  rw [e1]
  simp only [Option.bind_some]
  by_cases hb : (p.size : Int) > 300
  · rw [decide_eq_true hb, if_pos rfl]; exact e2 _
  · rw [decide_eq_false hb, if_neg (by decide), printP_ok]
    by_cases hr : rightB (x, y, z, p) = true
    · have hsz : p.size ≤ 55 := right_sz hr
      have ht := told_len hr
      simp only at ht
      have e3 : (printP (x, y, z, p)).1 = told (x, y, z, p) := by unfold printP; rw [if_pos hr]
      rw [e3, hr]
      obtain ⟨v, hv⟩ : ∃ v : Ver, v = (x, y, z, p) := ⟨_, rfl⟩
      have hH := fun (s : ByteArray) (hs : s.size ≤ 10000) => parse_holds K s hs (by omega) (x, y, z, p) (by show p.size ≤ _; omega)
      rw [← hv] at hr ht e3 hH ⊢
      have ap : ∀ c : UInt8, (⟨#[c]⟩ : ByteArray) ++ mk (told v) = mk (c :: told v) := fun c => by
        rw [show (⟨#[c]⟩ : ByteArray) = mk [c] from rfl, mk_append]
        rfl
      have sz : ∀ c : UInt8, (mk (c :: told v)).size ≤ 10000 := fun c => by rw [mk_size, List.length_cons]; omega
      have sz0 : (mk (told v)).size ≤ 10000 := by rw [mk_size]; omega
      have hP := fun (s : ByteArray) (hs : s.size ≤ 10000) => pParse05_eq K s hs (by omega)
      have s60 : parseR (60 :: told v) = ([[(2, v)]], true) := parse_sign hr 2 (by omega) (by omega)
      have s62 : parseR (62 :: told v) = ([[(4, v)]], true) := parse_sign hr 4 (by omega) (by omega)
      have hs := holds_self hr
      simp only [hoggetlaw05_SpanSelf.j0, Bool.not_true, Bool.false_eq_true, if_false]
      have h1 : 1 + (mk (told v)).size ≤ 9223372036854775807 := by rw [mk_size]; omega
      rw [if_pos h1]
      simp only [ap]
      rw [hP _ (sz 94), hP _ (sz 126), hP _ (sz 60), hP _ (sz 62), hP _ sz0, spans_eq K (by omega)]
      have q60 := hH _ (sz 60)
      have q62 := hH _ (sz 62)
      have q0 := hH _ sz0
      have q94 := hH _ (sz 94)
      have q126 := hH _ (sz 126)
      simp only [dl_mk, s60, s62, parse_bare hr, hs] at q60 q62 q0
      rw [hv] at q60 q62 q0 q94 q126
      simp only at q60 q62 q0 q94 q126
      rw [← hv] at q60 q62 q0 q94 q126
      simp only [Option.bind_some, if_true, dl_mk, s60, s62, parse_bare hr, q60, q62, q0, Bool.false_eq_true, if_false] at q94 q126 ⊢
      have w94 := wide_holds hr 94 (.inl rfl)
      have w126 := wide_holds hr 126 (.inr rfl)
      cases h94 : (parseR (94 :: told v)).2 <;> cases h126 : (parseR (126 :: told v)).2 <;> simp_all
    · have : rightB (x, y, z, p) = false := by simpa using hr
      rw [this]; exact e2 _
end Go.Proofs.YtijooffpjfhidaaGreatDoor.Vp
end
section
namespace Go
variable {H : Type} {enc : TypeId × Value → H}
theorem returnsInHanded_and_shaped {a : Assume} {C : Checked} {os : Os} {f : FuncId} {fn : Func} {s : ChangeSpec} {conds : List PathCond} {apart fresh handsOn again : Bool} {X : World → Array Value → Prop}
    (hX : ∀ (w w' : World) (args : Array Value), w.heap = w'.heap → X w args → X w' args)
    (own : ownKnob C.prog.godebug = none) (started : os.Started) (noInit : C.prog.inits.idxOf? f = none) (hfn : C.prog.funcs[f]? = some fn)
    (witness : ∃ (w : World) (tape : Tape) (i : Input), w.os = os ∧ (w.forCall tape i).Shaped C.prog ∧ i.vars = [] ∧ Input.okWide C.prog (w.forCall tape i) .any w.heap.size f i ∧
      ((s.pre enc C.prog fn conds apart (w.forCall tape i).memory i.args ∧ X (w.forCall tape i).memory i.args) ∧ sizedMet enc C.prog fn (OpenSpec.ofChange s) apart (w.forCall tape i).memory i.args) ∧ a.holds C.prog (lone (Frame.enter C.prog f i.args .normal) [] (w.forCall tape i)))
    (contract : ∀ (W : World) (base : Nat) (args : Array Value) (ds gs : List (DataW H)) (before : List MemPlace),
      (∀ (j : Nat) t v, fn.params[j]? = some t → args[j]? = some v → Value.okWide C.prog W .any base t v) →
      DataW.Whole enc C.prog fn.params.toList s.vars apart W args.toList ds gs before →
      conds.all (PathCond.test C.prog ⟨fn.params.toList, ds, s.plain.varTypes C.prog, gs⟩) = true →
      (DataW.weightsEach C.prog (fn.params.toList ++ s.plain.varTypes C.prog) (ds ++ gs)).all (· ≤ reachBytes) = true → X W args → W.ShapedOpen C.prog →
      a.holds C.prog (lone (Frame.enter C.prog f args .normal) [] W) →
      Calls C.prog f args W fun e W' => ∃ v, e = .returned v ∧ s.post enc C.prog fn apart fresh handsOn again W args v W') :
    ReturnsInHanded a C os f .any (fun w args => (s.pre enc C.prog fn conds apart w args ∧ X w args) ∧ sizedMet enc C.prog fn (OpenSpec.ofChange s) apart w args) (s.post enc C.prog fn apart fresh handsOn again) := by
  refine returnsInHanded_of_calls own started noInit witness ?_
  intro w tape i _ hsh _ hok hpre hholds
  obtain ⟨_, _, _, fn', hfn', _, _, _, _, hval⟩ := hok
  have e : fn' = fn := Option.some.inj (hfn'.symm.trans hfn)
  subst e
  obtain ⟨⟨⟨ds, gs, before, hw, hc⟩, hx⟩, hz⟩ := hpre
  have hw' := DataW.Whole.of_heap (w' := w.forCall tape i) (by rfl) hw
  refine (contract (w.forCall tape i) w.heap.size i.args ds gs before hval hw' hc (hz.weights hw) (hX _ _ _ (by rfl) hx) hsh hholds).mono fun e W' ⟨v, he, hp⟩ => ?_
  subst he
  exact ChangeSpec.post_blind hp
end Go
namespace Go.Proofs.YtijooffpjfhidaaGreatDoor
open Go Go.RowKit
theorem pow_tab : (Rows.laid_internal_strconv_uint64pow10 : DataW Unit) = Lib.tabData .u64 Lib.pow10Tab := by kernel_rfl
theorem text_of {s : ByteArray} {l : List UInt8} (h : s.data.toList = l) : s = ⟨⟨l⟩⟩ := by
  subst h
  cases s with | mk d => cases d; rfl
set_option maxRecDepth 100000 in
theorem sign_of {enc : TypeId × Value → Unit} {W : World} {base : Nat} {sp : Nat → Bool} {held : Bool} {fuel : Nat} {cs : List Value} {x : DataW Unit × List MemPlace} {n : Int} {l : List UInt8}
    (h : DataW.trod enc Tryz.prog W base sp held fuel 57 cs = some x) (hx : x.1 = .agg [.lit (.int .i64 n), .lit (.string l)]) : cs = [.int .i64 n, .string ⟨⟨l⟩⟩] := by
  obtain ⟨xs, m, _, rfl, hl, hz, hf⟩ := DataW.trod_struct Tryz.underlying57 h
  rw [show Tryz.prog.cellsOf 57 = 2 by kernel_rfl] at hl
  match cs, hl, xs, hz with
  | [c0, c1], _, [y0, y1], _ =>
    have ci : Tryz.prog.cellsOf 43 = 1 := by kernel_rfl
    have cs : Tryz.prog.cellsOf 9 = 1 := by kernel_rfl
    have k0 : DataW.trod enc Tryz.prog W base sp held m 43 [c0] = some y0 := by simpa [ci] using hf 0 _ rfl
    have k1 : DataW.trod enc Tryz.prog W base sp held m 9 [c1] = some y1 := by simpa [cs] using hf 1 _ rfl
    obtain ⟨n0, e0, rfl, _⟩ := DataW.trod_int Tryz.underlying43 k0
    obtain ⟨s1, e1, rfl, _⟩ := DataW.trod_string Tryz.underlying9 k1
    simp only [List.map_cons, List.map_nil, DataW.agg.injEq, List.cons.injEq, DataW.lit.injEq, Lit.int.injEq, Lit.string.injEq, and_true, true_and] at hx e0 e1
    obtain ⟨rfl, hx⟩ := hx
    rw [e0, e1, text_of hx]
set_option maxRecDepth 100000 in
theorem signs_of {enc : TypeId × Value → Unit} {W : World} {base : Nat} {sp : Nat → Bool} {held : Bool} {fuel : Nat} {cs : List Value} {p : List MemPlace}
    (h : DataW.trod enc Tryz.prog W base sp held fuel 58 cs = some (Rows.laid_hogget_span_signs, p)) :
    cs = [.int .i64 3, .string ⟨#[60, 61]⟩, .int .i64 5, .string ⟨#[62, 61]⟩, .int .i64 2, .string ⟨#[60]⟩, .int .i64 4, .string ⟨#[62]⟩, .int .i64 1, .string ⟨#[61]⟩] := by
  obtain ⟨xs, m, _, hx, hl, hz, hf⟩ := DataW.trod_array Tryz.underlying58 h
  rw [show Tryz.prog.cellsOf 58 = 10 by kernel_rfl] at hl
  have hx1 := (Prod.mk.inj hx).1
  unfold Rows.laid_hogget_span_signs at hx1
  have c2 : Tryz.prog.cellsOf 57 = 2 := by kernel_rfl
  match xs, hz with
  | [y0, y1, y2, y3, y4], _ =>
    simp only [List.map_cons, List.map_nil, DataW.agg.injEq, List.cons.injEq, and_true] at hx1
    obtain ⟨e0, e1, e2, e3, e4⟩ := hx1
    have f0 := sign_of (by simpa [c2] using hf 0 (by omega)) e0.symm
    have f1 := sign_of (by simpa [c2] using hf 1 (by omega)) e1.symm
    have f2 := sign_of (by simpa [c2] using hf 2 (by omega)) e2.symm
    have f3 := sign_of (by simpa [c2] using hf 3 (by omega)) e3.symm
    have f4 := sign_of (by simpa [c2] using hf 4 (by omega)) e4.symm
    match cs, hl with
    | [a0, a1, a2, a3, a4, a5, a6, a7, a8, a9], _ =>
      simp only [List.drop_zero, List.drop_succ_cons, List.take_succ_cons, List.take_zero, List.cons.injEq, and_true] at f0 f1 f2 f3 f4
      obtain ⟨rfl, rfl⟩ := f0
      obtain ⟨rfl, rfl⟩ := f1
      obtain ⟨rfl, rfl⟩ := f2
      obtain ⟨rfl, rfl⟩ := f3
      obtain ⟨rfl, rfl⟩ := f4
      rfl
theorem LD_of {l : List (String × DataW Unit)} {W : World} (h : laidMetH Tryz.prog l W) (hsh : W.ShapedOpen Tryz.prog) (hn : (l.all fun x => x.2.handleName?.isNone) = true)
    (h1 : ("internal/strconv.uint64pow10", Rows.laid_internal_strconv_uint64pow10) ∈ l) (h2 : ("strconv.ErrSyntax", Rows.laid_strconv_ErrSyntax) ∈ l) (h3 : ("strconv.ErrRange", Rows.laid_strconv_ErrRange) ∈ l) (h4 : ("hogget/span.signs", Rows.laid_hogget_span_signs) ∈ l) : LD W := by
  rw [MakeChecks.laidMetH_plain _ _ _ hn] at h
  refine ⟨?_, ?_, ?_, ?_, ?_⟩
  · obtain ⟨g, t, cs, fuel, p, hg, ht, hv, hd⟩ := Lib.laidMet.reads h h1
    obtain rfl := Option.some.inj ((show Tryz.prog.globalNamed "internal/strconv.uint64pow10" = some 4 by kernel_rfl).symm.trans hg)
    obtain rfl := Option.some.inj ((show (Tryz.prog.globals[4]?).map (·.type) = some 137 by kernel_rfl).symm.trans ht)
    rw [pow_tab] at hd
    unfold Lib.TabIs
    rw [hv, ← Lib.cells_of_tab Tryz.underlying137 Tryz.underlying115 (by kernel_rfl) (by kernel_rfl) hd]
  · obtain ⟨g, t, cs, fuel, p, hg, ht, hv, hd⟩ := Lib.laidMet.reads h h2
    obtain rfl := Option.some.inj ((show Tryz.prog.globalNamed "strconv.ErrSyntax" = some 5 by kernel_rfl).symm.trans hg)
    obtain rfl := Option.some.inj ((show (Tryz.prog.globals[5]?).map (·.type) = some 81 by kernel_rfl).symm.trans ht)
    obtain ⟨_, u, v, hcs, _⟩ := iface_of_trod Tryz.underlying81 hd
    exact ⟨u, v, by rw [hv]; exact congrArg some (Array.toList_inj.1 hcs)⟩
  · obtain ⟨g, t, cs, fuel, p, hg, ht, hv, hd⟩ := Lib.laidMet.reads h h3
    obtain rfl := Option.some.inj ((show Tryz.prog.globalNamed "strconv.ErrRange" = some 6 by kernel_rfl).symm.trans hg)
    obtain rfl := Option.some.inj ((show (Tryz.prog.globals[6]?).map (·.type) = some 81 by kernel_rfl).symm.trans ht)
    obtain ⟨_, u, v, hcs, _⟩ := iface_of_trod Tryz.underlying81 hd
    exact ⟨u, v, by rw [hv]; exact congrArg some (Array.toList_inj.1 hcs)⟩
  · exact cell_of_shapedOpen_int (g := 3) (t := 3) hsh (of_decide_eq_true (by kernel_rfl)) (zero := #[.int .i64 0]) (by kernel_rfl) rfl (by kernel_rfl) (by kernel_rfl) Tryz.underlying3
  · obtain ⟨g, t, cs, fuel, p, hg, ht, hv, hd⟩ := Lib.laidMet.reads h h4
    obtain rfl := Option.some.inj ((show Tryz.prog.globalNamed "hogget/span.signs" = some 0 by kernel_rfl).symm.trans hg)
    obtain rfl := Option.some.inj ((show (Tryz.prog.globals[0]?).map (·.type) = some 58 by kernel_rfl).symm.trans ht)
    have hcs := signs_of hd
    exact hv.trans (congrArg some (Array.toList_inj.1 hcs))
end Go.Proofs.YtijooffpjfhidaaGreatDoor
end
section
namespace Go.Proofs.YtijooffpjfhidaaGreatDoor.Row
open Go Go.RowKit Go.ChangeShapes Go.WideShapes Go.ChangeAt
open Go.ChangeMaps (open_string shut_string)
set_option maxRecDepth 100000 in
theorem open_ver {H : Type} {enc : TypeId × Value → H} {W : World} {base b0 : Nat} {sp : Nat → Bool} {held : Bool} {r : Reach} {v : Value} {d : DataW H} {p : List MemPlace}
    (hv : Value.okWide Tryz.prog W r b0 35 v) (h : DataW.Trod enc Tryz.prog W base sp held 35 v d p) :
    ∃ (x y z : Int) (s : ByteArray), v = .agg #[.int .i64 x, .int .i64 y, .int .i64 z, .string s] ∧ p = [] ∧ d = .agg [.lit (.int .i64 x), .lit (.int .i64 y), .lit (.int .i64 z), .lit (.string s.data.toList)] := by
  obtain ⟨v0, v1, v2, v3, y0, y1, y2, y3, n, rfl, rfl, rfl, h0, h1, h2, h3⟩ := Joins.open_agg4 Tryz.underlying35 (by kernel_rfl) (by kernel_rfl) hv h
  obtain ⟨x, e0, rfl, _⟩ := DataW.trod_int Tryz.underlying3 h0
  obtain ⟨y, e1, rfl, _⟩ := DataW.trod_int Tryz.underlying3 h1
  obtain ⟨z, e2, rfl, _⟩ := DataW.trod_int Tryz.underlying3 h2
  obtain ⟨s, e3, rfl, _⟩ := DataW.trod_string Tryz.underlying9 h3
  simp only [List.cons.injEq, and_true] at e0 e1 e2 e3
  subst e0 e1 e2 e3
  exact ⟨x, y, z, s, rfl, rfl, rfl⟩
theorem ver_sized {H : Type} {ts : List TypeId} {ds : List (DataW H)} (h : (DataW.weightsEach Tryz.prog ts ds).all (· ≤ reachBytes) = true) {j : Nat} {x y z : Int} {l : List UInt8} (ht : ts[j]? = some 35)
    (hd : ds[j]? = some (.agg [.lit (.int .i64 x), .lit (.int .i64 y), .lit (.int .i64 z), .lit (.string l)])) : l.length ≤ reachBytes := by
  have := List.all_eq_true.1 h _ (DataW.weights_mem_each ht hd l.length (by simp [DataW.weights, Tryz.underlying35, DataW.weightsEach]))
  simpa using this
end Go.Proofs.YtijooffpjfhidaaGreatDoor.Row
end
