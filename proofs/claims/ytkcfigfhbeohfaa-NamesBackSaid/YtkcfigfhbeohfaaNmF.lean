/- The five laws of layer 3 as statements over texts and rows alone: each comes to true. -/
import Derived.Test.YtkcfigfhbeohfaaNmE
namespace Go.Proofs.Ytkcfigfhbeohfaa.Nm
open Go Go.RowKit Go.Proofs.YtkcfigfhbeohfaaW.PrintWords Go.Proofs.Ytkcfigfhbeohfaa.Txt Go.Proofs.Ytkcfigfhbeohfaa.G Go.Proofs.Ytkcfigfhbeohfaa.Parts

theorem own_eq (l : List ByteArray) (h : l.length < 8796093022208) : hoggetref03_Own.f l = some l := by
  unfold hoggetref03_Own.f
  rw [if_pos (by simpa using h)]; rfl

theorem splits_pure (a0 : ByteArray) : ∃ k, hoggetlaw03_NamesSplits.f k a0 = some true := by
  refine ⟨4294967300, ?_⟩
  generalize hK : 4294967300 = K
  unfold hoggetlaw03_NamesSplits.f
  by_cases h : (a0.size : Int) > 2000
  · rw [if_pos h]
  · rw [if_neg h, split_eq K a0 (by omega) (by omega), rsplit_eq K a0 (by omega) (by omega), calls_eq K (by omega)]
    simp only [Option.bind_some, if_true]
    have : (splitR a0).1.length ≤ 12 := by
      unfold splitR
      split
      · rename_i h; exact h.2
      · simp
    rw [same_eq K _ _ (by omega) (by omega)]
    simp

theorem paths_pure (s : ByteArray) (l : List ByteArray) : ∃ k, hoggetlaw03_NamesPaths.f k s l = some true := by
  refine ⟨4294967300, ?_⟩
  obtain ⟨K, hK⟩ : ∃ K, 4294967300 = K + 1 := ⟨4294967299, rfl⟩
  rw [hK]
  unfold hoggetlaw03_NamesPaths.f
  by_cases h : (s.size : Int) > 2000
  · rw [if_pos h]; rfl
  · rw [if_neg h]
    rcases big_eq (K + 1) l 20 300 (by omega) (by omega) with hb | ⟨hb, hl, hx⟩
    · rw [show ((20 : Nat) : Int) = 20 from rfl, show ((300 : Nat) : Int) = 300 from rfl] at hb
      rw [hb]; rfl
    · rw [show ((20 : Nat) : Int) = 20 from rfl, show ((300 : Nat) : Int) = 300 from rfl] at hb
      rw [hb]
      simp only [Option.bind_some, hoggetlaw03_NamesPaths.j0, Bool.false_eq_true, if_false]
      rw [own_eq l (by omega)]
      simp only [Option.bind_some]
      rw [path_eq K l (by omega), rpath_eq K l (by omega), calls_eq K (by omega), good_eq K s (by omega), rgood_eq K s (by omega)]
      simp only [Option.bind_some, if_true, beq_self_eq_true]
      rw [same_eq K l l (by omega) (by omega)]
      simp

theorem pathR_split {l : List ByteArray} {p : ByteArray} (h : pathR l = (p, 0)) : splitR p = (l, true) := by
  unfold pathR at h
  split at h
  · simp at h
  · split at h
    · rename_i h1 h2
      simp only [Prod.mk.injEq, and_true] at h
      exact splitR_of h2 (by omega) (by rw [← h]; rfl)
    · simp at h

theorem splitR_len (s : ByteArray) : (splitR s).1.length ≤ 12 := by
  unfold splitR
  split
  · rename_i h; exact h.2
  · simp

theorem pathR_size (l : List ByteArray) : (pathR l).1.size ≤ 1000 := by
  unfold pathR
  split
  · simp
  · split
    · rename_i h1 h2
      rw [mk_size]
      have := join_le [47] 53 ((l.map dl).map (fr ++ ·)) (fun y hy => by
        obtain ⟨z, hz, rfl⟩ := List.mem_map.1 hy
        obtain ⟨u, hu, rfl⟩ := List.mem_map.1 hz
        unfold allGood at h2
        rw [List.all_eq_true] at h2
        have := good_len (h2 u hu)
        simp [fr]; omega)
      simp only [List.length_map] at this
      have h3 : l.length * ([47].length + 53) ≤ 12 * 54 := Nat.mul_le_mul (by omega) (by simp)
      unfold pathB
      omega
    · simp

theorem back_tail (K : Nat) (hk : 4294967290 ≤ K) (s : ByteArray) (hs : s.size ≤ 2000) :
    ((names_Split.f K s).bind fun bt213 => ((names_Path.f K bt213.1).bind fun bt217 => ((hoggetlaw03_calls.f K).bind fun t219 => (if t219 = true then (if bt213.2 = true then (if bt217.2 = 0 then (if bt217.1.toList = s.toList then (some true) else (some false)) else (some false)) else (some ((bt213.1.length : Int) == 0))) else (some false))))) = some true := by
  rw [split_eq K s (by omega) (by omega)]
  simp only [Option.bind_some]
  rw [path_eq K _ (by omega), calls_eq K (by omega)]
  simp only [Option.bind_some, if_true]
  cases hr : splitR s with
  | mk l b =>
    cases b
    · have : l = [] := by
        unfold splitR at hr
        split at hr
        · simp at hr
        · simp at hr; exact hr
      subst this
      simp
    · obtain ⟨h1, h2, h3, _⟩ := splitR_path hr
      have : pathR l = (s, 0) := by
        unfold pathR
        rw [if_neg (by omega), if_pos h1, h3]
        exact congrArg (fun t => (t, (0 : Int))) (eq_mk s).symm
      simp [this]

theorem back_pure (l : List ByteArray) (s : ByteArray) : ∃ k, hoggetlaw03_NamesBack.f k l s = some true := by
  refine ⟨4294967300, ?_⟩
  obtain ⟨K, hK⟩ : ∃ K, 4294967300 = K + 1 + 1 := ⟨4294967298, rfl⟩
  rw [hK]
  unfold hoggetlaw03_NamesBack.f
  rcases big_eq (K + 1 + 1) l 20 300 (by omega) (by omega) with hb | ⟨hb, hl, hx⟩
  · rw [show ((20 : Nat) : Int) = 20 from rfl, show ((300 : Nat) : Int) = 300 from rfl] at hb
    rw [hb]; rfl
  · rw [show ((20 : Nat) : Int) = 20 from rfl, show ((300 : Nat) : Int) = 300 from rfl] at hb
    rw [hb]
    simp only [Option.bind_some, Bool.false_eq_true, if_false]
    by_cases h : (s.size : Int) > 2000
    · rw [decide_eq_true h]; rfl
    · rw [decide_eq_false h]
      simp only [hoggetlaw03_NamesBack.j0, Bool.false_eq_true, if_false]
      rw [path_eq (K + 1) l (by omega)]
      simp only [Option.bind_some]
      by_cases he : (pathR l).2 = 0
      · rw [if_pos he]
        have hp : pathR l = ((pathR l).1, 0) := by rw [← he]
        have hz := pathR_size l
        rw [split_eq (K + 1) _ (by omega) (by omega), pathR_split hp]
        simp only [Option.bind_some, if_true]
        rw [same_eq (K + 1) l l (by omega) (by omega)]
        simp only [Option.bind_some, decide_true, Bool.not_true, hoggetlaw03_NamesBack.j1, Bool.false_eq_true, if_false]
        exact back_tail K (by omega) s (by omega)
      · rw [if_neg he]
        exact back_tail (K + 1) (by omega) s (by omega)

theorem each_last (K : Nat) (b : Bool) (e : Int) : ∀ (r l : List ByteArray) (i : Int) (k : Nat), Lt l i r → l.length ≤ 12 → (∀ x ∈ r, goodL (dl x) = true) → (e == 0) = b → r.length + 200 ≤ k →
    hoggetlaw03_NamesEach.l1 k b e l i = some true
  | [], l, i, k, h, hl, hg, hb, hk => by
    obtain ⟨k, rfl⟩ : ∃ m, k = m + 1 := ⟨k - 1, by omega⟩
    simp only [hoggetlaw03_NamesEach.l1]
    rw [if_neg h.not_lt, calls_eq k (by omega)]
    simp only [Option.bind_some, if_true, hb, beq_self_eq_true]
    rw [decide_eq_true (by omega)]
  | x :: r, l, i, k, h, hl, hg, hb, hk => by
    obtain ⟨k, rfl⟩ : ∃ m, k = m + 1 := ⟨k - 1, by omega⟩
    simp only [hoggetlaw03_NamesEach.l1]
    have hx := hg x List.mem_cons_self
    unfold dl at hx
    rw [if_pos h.lt, if_pos h.ge, h.rd, h.wrap (by omega), good_eq k x (by omega), hx]
    simp only [Option.bind_some, if_true]
    exact each_last K b e r l (i + 1) k h.next hl (fun y hy => hg y (List.mem_cons_of_mem _ hy)) hb (by simp at hk; omega)

theorem each_loop (s : ByteArray) (hs : s.size ≤ 2000) (l : List ByteArray) (hl : l.length ≤ 20) : ∀ (r : List ByteArray) (b : Bool) (i : Int) (k : Nat), Lt l i r →
    (b && allGood r) = (decide (l.length ≤ 12) && allGood l) → r.length + 1000 ≤ k → hoggetlaw03_NamesEach.l0 k l s b i = some true
  | [], b, i, k, h, hb, hk => by
    obtain ⟨k, rfl⟩ : ∃ m, k = m + 1 := ⟨k - 1, by omega⟩
    simp only [hoggetlaw03_NamesEach.l0]
    rw [if_neg h.not_lt, path_eq k l (by omega), split_eq k s (by omega) (by omega)]
    simp only [Option.bind_some]
    refine each_last 0 b _ _ _ 0 k (Lt.zero _) (splitR_len s) ?_ ?_ (by have := splitR_len s; omega)
    · intro x hx
      unfold splitR at hx
      split at hx
      · rename_i h
        have := h.1
        unfold allGood at this
        rw [List.all_eq_true] at this
        exact this x hx
      · simp at hx
    · have : b = (decide (l.length ≤ 12) && allGood l) := by rw [← hb]; simp [allGood]
      rw [this]
      unfold pathR
      by_cases h1 : 12 < l.length
      · have : ¬ l.length ≤ 12 := by omega
        simp [h1, this]
      · have : l.length ≤ 12 := by omega
        cases allGood l <;> simp [h1, this]
  | x :: r, b, i, k, h, hb, hk => by
    obtain ⟨k, rfl⟩ : ∃ m, k = m + 1 := ⟨k - 1, by omega⟩
    simp only [hoggetlaw03_NamesEach.l0]
    rw [if_pos h.lt, h.wrap (by omega)]
    cases b
    · rw [if_neg (by simp)]
      exact each_loop s hs l hl r false (i + 1) k h.next (by rw [← hb]; rfl) (by simp at hk; omega)
    · rw [if_pos rfl, if_pos h.ge, h.rd, good_eq k x (by omega)]
      simp only [Option.bind_some]
      exact each_loop s hs l hl r _ (i + 1) k h.next (by rw [← hb]; simp [allGood, dl]) (by simp at hk; omega)

theorem each_pure (l : List ByteArray) (s : ByteArray) : ∃ k, hoggetlaw03_NamesEach.f k l s = some true := by
  refine ⟨4294967300, ?_⟩
  obtain ⟨K, hK⟩ : ∃ K, 4294967300 = K + 1 + 1 := ⟨4294967298, rfl⟩
  rw [hK]
  unfold hoggetlaw03_NamesEach.f
  rcases big_eq (K + 1 + 1) l 20 300 (by omega) (by omega) with hb | ⟨hb, hl, hx⟩
  · rw [show ((20 : Nat) : Int) = 20 from rfl, show ((300 : Nat) : Int) = 300 from rfl] at hb
    rw [hb]; rfl
  · rw [show ((20 : Nat) : Int) = 20 from rfl, show ((300 : Nat) : Int) = 300 from rfl] at hb
    rw [hb]
    simp only [Option.bind_some, Bool.false_eq_true, if_false]
    by_cases h : (s.size : Int) > 2000
    · rw [decide_eq_true h]; rfl
    · rw [decide_eq_false h]
      simp only [hoggetlaw03_NamesEach.j0, Bool.false_eq_true, if_false]
      refine each_loop s (by omega) l hl l _ 0 (K + 1) (Lt.zero l) ?_ (by omega)
      have : ((l.length : Int) ≤ 12) ↔ l.length ≤ 12 := by omega
      simp [this]

theorem join_pure (a b : List ByteArray) : ∃ k, hoggetlaw03_NamesJoin.f k a b = some true := by
  refine ⟨4294967300, ?_⟩
  obtain ⟨K, hK⟩ : ∃ K, 4294967300 = K + 1 := ⟨4294967299, rfl⟩
  rw [hK]
  have ht : hoggetlaw03_NamesJoin.j0 (K + 1) a b true = some true := by
    simp only [hoggetlaw03_NamesJoin.j0, if_true]
    rw [calls_eq K (by omega)]; rfl
  unfold hoggetlaw03_NamesJoin.f
  rcases big_eq (K + 1) a 20 300 (by omega) (by omega) with ha | ⟨ha, hla, hxa⟩
  · rw [show ((20 : Nat) : Int) = 20 from rfl, show ((300 : Nat) : Int) = 300 from rfl] at ha
    rw [ha]; exact ht
  · rw [show ((20 : Nat) : Int) = 20 from rfl, show ((300 : Nat) : Int) = 300 from rfl] at ha
    rw [ha]
    simp only [Option.bind_some, Bool.false_eq_true, if_false]
    rcases big_eq (K + 1) b 20 300 (by omega) (by omega) with hb | ⟨hb, hlb, hxb⟩
    · rw [show ((20 : Nat) : Int) = 20 from rfl, show ((300 : Nat) : Int) = 300 from rfl] at hb
      rw [hb]; exact ht
    · rw [show ((20 : Nat) : Int) = 20 from rfl, show ((300 : Nat) : Int) = 300 from rfl] at hb
      rw [hb]
      simp only [Option.bind_some, Bool.false_eq_true, if_false]
      by_cases h0 : (a.length : Int) = 0
      · rw [if_pos h0]; exact ht
      · rw [if_neg h0]
        by_cases h1 : (b.length : Int) = 0
        · rw [h1]; exact ht
        · have : ((b.length : Int) == 0) = false := beq_eq_false_iff_ne.2 h1
          rw [this]
          simp only [hoggetlaw03_NamesJoin.j0, Bool.false_eq_true, if_false]
          rw [if_pos (by simp; omega)]
          simp only [Option.bind_some, List.nil_append]
          rw [if_pos (by omega)]
          rw [path_eq K a (by omega), path_eq K b (by omega), path_eq K (a ++ b) (by omega), calls_eq K (by omega)]
          simp only [Option.bind_some, if_true]
          have hza := pathR_size a
          have hzb := pathR_size b
          have e47 : (⟨#[47]⟩ : ByteArray) = mk [47] := rfl
          have hgood : allGood (a ++ b) = (allGood a && allGood b) := by simp [allGood]
          by_cases hn : 12 < (a ++ b).length
          · have hr : pathR (a ++ b) = (mk [], 30) := if_pos hn
            rw [hr]
            simp only [mk_toList]
            rw [if_neg (by decide), if_pos trivial, if_pos (by omega)]
          · have hna : ¬ 12 < a.length := by rw [List.length_append] at hn; omega
            have hnb : ¬ 12 < b.length := by rw [List.length_append] at hn; omega
            by_cases hg : allGood (a ++ b) = true
            · have hr : pathR (a ++ b) = (mk (pathB ((a ++ b).map dl)), 0) := by unfold pathR; rw [if_neg hn, if_pos hg]
              rw [hgood, Bool.and_eq_true] at hg
              have hra : pathR a = (mk (pathB (a.map dl)), 0) := by unfold pathR; rw [if_neg hna, if_pos hg.1]
              have hrb : pathR b = (mk (pathB (b.map dl)), 0) := by unfold pathR; rw [if_neg hnb, if_pos hg.2]
              rw [hra] at hza
              rw [hrb] at hzb
              rw [hr, hra, hrb]
              rw [mk_size] at hza hzb
              simp only [if_true, e47, mk_append, mk_toList, mk_size, List.length_append]
              rw [if_pos (by omega), if_pos (by simp; omega)]
              have : pathB ((a ++ b).map dl) = pathB (a.map dl) ++ [47] ++ pathB (b.map dl) := by
                cases a with
                | nil => simp at h0
                | cons x a =>
                  cases b with
                  | nil => simp at h1
                  | cons y b => simp [pathB, Lib.join_cons, Lib.joinTail]
              rw [this]
              simp
            · have hr : pathR (a ++ b) = (mk [], 30) := by unfold pathR; rw [if_neg hn, if_neg hg]
              rw [hr]
              simp only [mk_toList]
              rw [if_neg (by decide), if_pos trivial, if_neg (by rw [List.length_append] at hn; simp; omega)]
              by_cases hga : (pathR a).2 = 0
              · rw [if_pos hga]
                have : (pathR b).2 ≠ 0 := by
                  intro hgb
                  apply hg
                  rw [hgood, Bool.and_eq_true]
                  refine ⟨?_, ?_⟩
                  · apply Classical.byContradiction
                    intro h; unfold pathR at hga; rw [if_neg hna, if_neg h] at hga; revert hga; decide
                  · apply Classical.byContradiction
                    intro h; unfold pathR at hgb; rw [if_neg hnb, if_neg h] at hgb; revert hgb; decide
                simp [this]
              · rw [if_neg hga]

end Go.Proofs.Ytkcfigfhbeohfaa.Nm
