/- The names of layer 3, over lists of bytes: Split. -/
import Derived.Test.YtkcfigfhbeohfaaNmC
namespace Go.Proofs.Ytkcfigfhbeohfaa.Nm
open Go Go.RowKit Go.Proofs.YtkcfigfhbeohfaaW.PrintWords Go.Proofs.Ytkcfigfhbeohfaa.Txt Go.Proofs.Ytkcfigfhbeohfaa.G Go.Proofs.Ytkcfigfhbeohfaa.Parts

theorem cutL_none {c : UInt8} : ∀ {x : List UInt8}, c ∉ x → cutL c x = (x, [], false)
  | [], _ => rfl
  | y :: x, h => by
    unfold cutL
    rw [if_neg (fun e => h (by rw [e]; exact List.mem_cons_self)), cutL_none (fun h' => h (List.mem_cons_of_mem _ h'))]
theorem cutL_some {c : UInt8} (t : List UInt8) : ∀ {x : List UInt8}, c ∉ x → cutL c (x ++ c :: t) = (x, t, true)
  | [], _ => by simp [cutL]
  | y :: x, h => by
    show cutL c (y :: (x ++ c :: t)) = _
    unfold cutL
    rw [if_neg (fun e => h (by rw [e]; exact List.mem_cons_self)), cutL_some t (fun h' => h (List.mem_cons_of_mem _ h'))]
theorem cutL_back (c : UInt8) : ∀ l : List UInt8, ((cutL c l).2.2 = true → l = (cutL c l).1 ++ c :: (cutL c l).2.1) ∧ ((cutL c l).2.2 = false → (cutL c l).1 = l ∧ (cutL c l).2.1 = [])
  | [] => ⟨(fun h => by cases h), (fun _ => ⟨rfl, rfl⟩)⟩
  | y :: l => by
    have ih := cutL_back c l
    unfold cutL
    by_cases h : y = c
    · rw [if_pos h]; exact ⟨(fun _ => by simp [h]), (fun h => by cases h)⟩
    · rw [if_neg h]
      exact ⟨(fun hm => by simp only at hm ⊢; rw [List.cons_append, ← ih.1 hm]), (fun hm => by simp only at hm ⊢; rw [(ih.2 hm).1, (ih.2 hm).2]; exact ⟨rfl, rfl⟩)⟩

theorem word_ne {c : UInt8} (h : word c = true) : c ≠ 47 ∧ c ≠ 64 := by
  refine ⟨fun e => ?_, fun e => ?_⟩ <;> subst e <;> revert h <;> decide
theorem okc_ne {c : UInt8} (h : okc c = true) : c ≠ 47 := by
  intro e; subst e; revert h; decide
theorem plain_no {l : List UInt8} (h : plainL l = true) : 47 ∉ l := by
  cases l with
  | nil => simp
  | cons c r =>
    simp only [plainL, Bool.and_eq_true, List.all_eq_true] at h
    intro hm
    rcases List.mem_cons.1 hm with e | hm
    · exact (word_ne h.1).1 e.symm
    · exact okc_ne (h.2 _ hm) rfl

theorem dl_mk (l : List UInt8) : dl (mk l) = l := rfl

/-- What is behind `front`; the name that a text begins with, what is behind it, and whether there is more. -/
def behL (l : List UInt8) : List UInt8 := if fr.isPrefixOf l = true then l.drop 13 else l
def nameL (b : List UInt8) : List UInt8 × List UInt8 × Bool :=
  if ([64].isPrefixOf (cutL 47 b).1 && (cutL 47 b).2.2) = true then ((cutL 47 b).1 ++ 47 :: (cutL 47 (cutL 47 b).2.1).1, (cutL 47 (cutL 47 b).2.1).2) else cutL 47 b

theorem behind_eq (s : ByteArray) : behind s = mk (behL (dl s)) := rfl
theorem isFront_eq (s : ByteArray) : isFront s = fr.isPrefixOf (dl s) := rfl
theorem nameOf_eq (s : ByteArray) : nameOf s = (mk (nameL (behL (dl s))).1, mk (nameL (behL (dl s))).2.1, (nameL (behL (dl s))).2.2) := by
  unfold nameOf nameL
  rw [behind_eq, cutB_eq, cutB_eq]
  simp only [mk_list]
  have hat : isAt (mk (cutL 47 (behL (dl s))).1) = [64].isPrefixOf (cutL 47 (behL (dl s))).1 := rfl
  simp only [hat]
  split
  · have : (mk (cutL 47 (behL (dl s))).1 ++ ((⟨#[47]⟩ : ByteArray) ++ mk (cutL 47 (cutL 47 (behL (dl s))).2.1).1)) = mk ((cutL 47 (behL (dl s))).1 ++ 47 :: (cutL 47 (cutL 47 (behL (dl s))).2.1).1) := by
      rw [show (⟨#[47]⟩ : ByteArray) = mk [47] from rfl, mk_append, mk_append]; rfl
    rw [this]
  · rfl

theorem good_cases {x : List UInt8} (h : goodL x = true) : (plainL x = true ∧ [64].isPrefixOf x = false) ∨ ∃ a b, x = 64 :: (a ++ 47 :: b) ∧ plainL a = true ∧ plainL b = true := by
  unfold goodL at h
  split at h
  · cases h
  · split at h
    · cases h
    · cases x with
      | nil => cases h
      | cons y r =>
        simp only at h
        by_cases hy : y = 64
        · rw [if_pos hy] at h
          split at h
          · rename_i hm
            split at h
            · rename_i ha
              refine .inr ⟨_, _, ?_, ha, h⟩
              rw [hy, ← (cutL_back 47 r).1 hm]
            · cases h
          · cases h
        · rw [if_neg hy] at h
          exact .inl ⟨h, by simp [List.isPrefixOf]; exact fun e => hy e.symm⟩

theorem fr_pre (t : List UInt8) : fr.isPrefixOf (fr ++ t) = true := by rw [List.isPrefixOf_iff_prefix]; exact List.prefix_append _ _
theorem beh_fr (t : List UInt8) : behL (fr ++ t) = t := by unfold behL; rw [if_pos (fr_pre t)]; exact List.drop_left' (by rfl)

/-- The name that is read is the one that was written: nothing behind it, or a stroke. -/
theorem name_last {x : List UInt8} (h : goodL x = true) : nameL x = (x, [], false) := by
  unfold nameL
  rcases good_cases h with ⟨hp, ha⟩ | ⟨a, b, rfl, ha, hb⟩
  · rw [cutL_none (plain_no hp), ha]; rfl
  · have h1 : cutL 47 (64 :: (a ++ 47 :: b)) = (64 :: a, b, true) := by
      have := cutL_some (c := 47) b (x := 64 :: a) (by simp; exact plain_no ha)
      simpa using this
    rw [h1, cutL_none (plain_no hb)]
    simp [List.isPrefixOf]
theorem name_more {x : List UInt8} (h : goodL x = true) (t : List UInt8) : nameL (x ++ 47 :: t) = (x, t, true) := by
  unfold nameL
  rcases good_cases h with ⟨hp, ha⟩ | ⟨a, b, rfl, ha, hb⟩
  · rw [cutL_some t (plain_no hp), ha]; rfl
  · have h1 : cutL 47 (64 :: (a ++ 47 :: b) ++ 47 :: t) = (64 :: a, b ++ 47 :: t, true) := by
      have := cutL_some (c := 47) (b ++ 47 :: t) (x := 64 :: a) (by simp; exact plain_no ha)
      simpa using this
    rw [h1, cutL_some t (plain_no hb)]
    simp [List.isPrefixOf]

theorem pathB_one (x : List UInt8) : pathB [x] = fr ++ x := by simp [pathB, Lib.join_one]
theorem pathB_cons (x y : List UInt8) (l : List (List UInt8)) : pathB (x :: y :: l) = fr ++ (x ++ 47 :: pathB (y :: l)) := by
  simp [pathB, Lib.join_cons, Lib.joinTail]

/-- What was written is read. -/
theorem parts_path : ∀ (l : List (List UInt8)) (k : Nat) (x : List UInt8), (∀ y ∈ x :: l, goodL y = true) → (pathB (x :: l)).length < k → partsF k (mk (pathB (x :: l))) = (x :: l).map mk
  | [], k, x, h, hk => by
    obtain ⟨k, rfl⟩ : ∃ m, k = m + 1 := ⟨k - 1, by omega⟩
    rw [partsF, nameOf_eq]
    unfold handed
    rw [isFront_eq, nameOf_eq]
    simp only [dl_mk, pathB_one, fr_pre, beh_fr, name_last (h x List.mem_cons_self)]
    rfl
  | y :: l, k, x, h, hk => by
    obtain ⟨k, rfl⟩ : ∃ m, k = m + 1 := ⟨k - 1, by omega⟩
    rw [partsF, nameOf_eq]
    unfold handed
    rw [isFront_eq, nameOf_eq]
    rw [pathB_cons] at hk ⊢
    simp only [dl_mk, fr_pre, beh_fr, name_more (h x List.mem_cons_self), if_true]
    rw [parts_path l k y (fun z hz => h z (List.mem_cons_of_mem _ hz)) (by simp at hk ⊢; omega)]
    rfl

theorem partsL_path (l : List ByteArray) (h : allGood l = true) : partsL (mk (pathB (l.map dl))) = l := by
  have hm : ∀ l : List ByteArray, (l.map dl).map mk = l := fun l => by rw [List.map_map]; exact (List.map_congr_left (fun s _ => (eq_mk s).symm)).trans (List.map_id l)
  cases l with
  | nil => rfl
  | cons x l =>
    unfold partsL
    have hne : ¬ (mk (pathB ((x :: l).map dl))).size = 0 := by
      rw [mk_size]
      simp only [List.map_cons]
      cases l with
      | nil => rw [List.map_nil, pathB_one]; simp [fr]
      | cons y l => rw [List.map_cons, pathB_cons]; simp [fr]
    rw [if_neg hne, List.map_cons, parts_path _ _ _ (fun y hy => by
      rw [← List.map_cons] at hy
      obtain ⟨s, hs, rfl⟩ := List.mem_map.1 hy
      unfold allGood at h
      rw [List.all_eq_true] at h
      exact h s hs) (by rw [mk_size]; omega), ← List.map_cons, hm]

/-- What is read is what was written, if each is a name. -/
theorem path_parts : ∀ (k : Nat) (s : ByteArray), s.size < k → allGood (partsF k s) = true → pathB ((partsF k s).map dl) = dl s ∧ partsF k s ≠ []
  | 0, s, hk, _ => by omega
  | k + 1, s, hk, h => by
    have hz := (nameOf_size s).2
    rw [partsF] at h ⊢
    refine ⟨?_, by simp⟩
    have hh : goodL (dl (handed s)) = true := by
      unfold allGood at h
      rw [List.all_cons, Bool.and_eq_true] at h
      exact h.1
    have hfr : isFront s = true := by
      apply Classical.byContradiction
      intro hn
      unfold handed at hh
      rw [if_neg hn] at hh
      revert hh; decide
    have hs : dl s = fr ++ behL (dl s) := by
      rw [isFront_eq] at hfr
      unfold behL
      rw [if_pos hfr]
      obtain ⟨t, ht⟩ := List.isPrefixOf_iff_prefix.1 hfr
      rw [← ht, List.drop_left' (by rfl)]
    have hn : handed s = mk (nameL (behL (dl s))).1 := by unfold handed; rw [if_pos hfr, nameOf_eq]
    have hb : ((nameL (behL (dl s))).2.2 = true → behL (dl s) = (nameL (behL (dl s))).1 ++ 47 :: (nameL (behL (dl s))).2.1) ∧ ((nameL (behL (dl s))).2.2 = false → behL (dl s) = (nameL (behL (dl s))).1) := by
      generalize behL (dl s) = b
      have h1 := cutL_back 47 b
      have h2 := cutL_back 47 (cutL 47 b).2.1
      unfold nameL
      split
      · rename_i hc
        rw [Bool.and_eq_true] at hc
        have h3 := h1.1 hc.2
        refine ⟨fun hm => ?_, fun hm => ?_⟩
        · simp only at hm ⊢
          rw [List.append_assoc, List.cons_append, ← h2.1 hm]; exact h3
        · simp only at hm ⊢
          rw [(h2.2 hm).1]; exact h3
      · exact ⟨fun hm => h1.1 hm, fun hm => (h1.2 hm).1.symm⟩
    rw [nameOf_eq] at hz h ⊢
    simp only at hz h ⊢
    cases hm : (nameL (behL (dl s))).2.2
    · rw [if_neg (by simp), List.map_cons, List.map_nil, hn]
      simp only [dl_mk]
      rw [pathB_one]
      exact (congrArg (fr ++ ·) (hb.2 hm).symm).trans hs.symm
    · rw [hm] at hz h
      rw [if_pos rfl] at h ⊢
      have hr : allGood (partsF k (mk (nameL (behL (dl s))).2.1)) = true := by
        unfold allGood at h ⊢
        rw [List.all_cons, Bool.and_eq_true] at h
        exact h.2
      obtain ⟨i1, i2⟩ := path_parts k _ (by have := hz rfl; omega) hr
      rw [List.map_cons, hn]
      revert i1 i2
      generalize partsF k (mk (nameL (behL (dl s))).2.1) = P
      intro i1 i2
      cases P with
      | nil => exact absurd rfl i2
      | cons p P =>
        rw [List.map_cons] at i1 ⊢
        rw [pathB_cons, i1]
        simp only [dl_mk]
        exact (congrArg (fr ++ ·) (hb.1 hm).symm).trans hs.symm

/-- What Split comes to. -/
def splitR (s : ByteArray) : List ByteArray × Bool := if allGood (partsL s) = true ∧ (partsL s).length ≤ 12 then (partsL s, true) else ([], false)

theorem go_eq (k : Nat) (hk : 50 ≤ k) : ∀ (xs acc : List ByteArray), acc.length ≤ 12 → names_Split.go k xs acc = some (if allGood xs = true ∧ acc.length + xs.length ≤ 12 then (acc ++ xs, true) else ([], false))
  | [], acc, ha => by simp [names_Split.go, allGood, ha]
  | x :: xs, acc, ha => by
    rw [names_Split.go, good_eq k x hk]
    simp only [Option.bind_some]
    cases hg : goodL x.data.toList
    · simp [allGood, dl, hg]
    · rw [if_neg (by simp)]
      by_cases h : 12 < acc.length + 1
      · rw [if_pos h, if_neg (by simp; omega)]
      · rw [if_neg h, go_eq k hk xs _ (by simp; omega)]
        have e : allGood (x :: xs) = allGood xs := by simp [allGood, dl, hg]
        rw [e]
        have e2 : (acc ++ [x]).length + xs.length = acc.length + (x :: xs).length := by simp; omega
        rw [e2]
        simp
theorem split_eq (k : Nat) (s : ByteArray) (hs : s.size ≤ 2147483647) (hk : 50 ≤ k) : names_Split.f k s = some (splitR s) := by
  unfold names_Split.f splitR
  rw [if_pos hs, go_eq k hk _ _ (by simp)]
  simp

theorem splitR_path {s : ByteArray} {l : List ByteArray} (h : splitR s = (l, true)) : allGood l = true ∧ l.length ≤ 12 ∧ pathB (l.map dl) = dl s ∧ l = partsL s := by
  unfold splitR at h
  split at h
  · rename_i h0
    simp only [Prod.mk.injEq, and_true] at h
    subst h
    refine ⟨h0.1, h0.2, ?_, rfl⟩
    have hg := h0.1
    unfold partsL at hg ⊢
    split
    · rename_i hz
      have : dl s = [] := List.length_eq_zero_iff.1 (by unfold dl; rw [len]; exact hz)
      rw [this]; rfl
    · rename_i hz
      rw [if_neg hz] at hg
      exact (path_parts _ s (by omega) hg).1
  · simp at h
theorem splitR_of {s : ByteArray} {l : List ByteArray} (h1 : allGood l = true) (h2 : l.length ≤ 12) (h3 : pathB (l.map dl) = dl s) : splitR s = (l, true) := by
  have e : s = mk (pathB (l.map dl)) := by rw [h3]; exact eq_mk s
  have hp := partsL_path l h1
  rw [← e] at hp
  unfold splitR
  rw [hp, if_pos ⟨h1, h2⟩]

end Go.Proofs.Ytkcfigfhbeohfaa.Nm
