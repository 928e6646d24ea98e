/- Two values in brackets; what lacks its last byte (pure). -/
import Derived.Test.YtkcfigfhbeohfaaGreatDoorTpc
namespace Go.Proofs.YtkcfigfhbeohfaaGreatDoor.Tp
theorem not_close {d : Nat} {r r1 : List UInt8} {o : List Nd} (h : value d r = .ok (o, r1)) : ∃ b t, skip r = b :: t ∧ b ≠ 93 := by
  cases d with
  | zero =>
    simp only [value] at h
    split at h <;> cases h
  | succ d =>
    cases hs : skip r with
    | nil => unfold value at h; rw [hs] at h; cases h
    | cons b t =>
      refine ⟨b, t, rfl, ?_⟩
      rintro rfl
      unfold value at h
      rw [hs] at h
      simp only at h
      rw [if_neg (by decide), if_neg (by decide), if_neg (by decide), if_neg (by decide), if_neg (by decide)] at h
      cases h
theorem value_list (d : Nat) (t : List UInt8) : value (d + 1) (91 :: t) = match rows 93 (elem (value d)) () t with | .error x => .error x | .ok (o, r1, n) => .ok (o ++ [nd 5 0 n], r1) := by
  unfold value
  rw [skip_nb (by decide)]
  rfl
theorem lists {a b r1 r2 : List UInt8} {o1 o2 : List Nd} (ha : value 20 a = .ok (o1, r1)) (h1 : skip r1 = []) (hb : value 20 b = .ok (o2, r2)) (h2 : skip r2 = []) :
    value 20 (91 :: (a ++ 44 :: (b ++ [93]))) = .ok (o1 ++ o2 ++ [nd 5 0 2], []) ∨ ∃ p, value 20 (91 :: (a ++ 44 :: (b ++ [93]))) = .error (12, p) := by
  have b1 := skip_nil h1
  have b2 := skip_nil h2
  obtain ⟨ca, rfl, _, xa, _⟩ := (value_ext 20).2 _ _ _ ha
  obtain ⟨cb, rfl, _, xb, _⟩ := (value_ext 20).2 _ _ _ hb
  obtain ⟨X2, hX2⟩ : ∃ X2, r2 ++ [93] = X2 := ⟨_, rfl⟩
  have e2 : cb ++ r2 ++ [93] = cb ++ X2 := by rw [List.append_assoc, hX2]
  rw [e2]
  obtain ⟨X1, hX1⟩ : ∃ X1, r1 ++ 44 :: (cb ++ X2) = X1 := ⟨_, rfl⟩
  have e1 : ca ++ r1 ++ 44 :: (cb ++ X2) = ca ++ X1 := by rw [List.append_assoc, hX1]
  rw [e1]
  have f1 : Follow X1 := by rw [← hX1]; exact follow_blank b1 (follow_at (.inl rfl) _)
  have f2 : Follow X2 := by rw [← hX2]; exact follow_blank b2 (follow_at (.inr (.inl rfl)) _)
  have v1 := xa X1 f1
  have v2 := xb X2 f2
  obtain ⟨p1, t1, s1, n1⟩ := not_close v1
  obtain ⟨p2, t2, s2, n2⟩ := not_close v2
  have w1 : value 19 (p1 :: t1) = value 19 (ca ++ X1) := by rw [← s1, value_skip]
  have w2 : value 19 (p2 :: t2) = value 19 (cb ++ X2) := by rw [← s2, value_skip]
  have k1 : skip X1 = 44 :: (cb ++ X2) := by rw [← hX1]; exact skip_blank b1 (by decide) _
  have k2 : skip X2 = [93] := by rw [← hX2]; exact skip_blank b2 (by decide) _
  rw [value_list 19]
  unfold rows
  rw [s1]
  simp only
  rw [if_neg n1]
  have hlen : ∃ k, (ca ++ X1).length = k + 1 := by
    cases hx : ca ++ X1 with
    | nil => rw [hx] at s1; cases s1
    | cons => exact ⟨_, rfl⟩
  obtain ⟨k, hk⟩ := hlen
  rw [hk]
  rcases value_deep 19 _ _ v1 with g1 | ⟨q, g1⟩
  · have each1 : elem (value 19) () (p1 :: t1) = .ok (o1, X1, ()) := by unfold elem; rw [w1, g1]
    rw [row, each1]
    simp only
    rw [k1]
    simp only
    rw [if_pos trivial, s2]
    simp only
    rw [if_neg n2, List.nil_append]
    rcases value_deep 19 _ _ v2 with g2 | ⟨q, g2⟩
    · have each2 : elem (value 19) () (p2 :: t2) = .ok (o2, X2, ()) := by unfold elem; rw [w2, g2]
      rw [row, each2]
      simp only
      rw [k2]
      simp only
      rw [if_neg (by decide), if_pos trivial]
      exact .inl rfl
    · have each2 : elem (value 19) () (p2 :: t2) = .error (12, q) := by unfold elem; rw [w2, g2]
      rw [row, each2]
      exact .inr ⟨q, rfl⟩
  · have each1 : elem (value 19) () (p1 :: t1) = .error (12, q) := by unfold elem; rw [w1, g1]
    rw [row, each1]
    exact .inr ⟨q, rfl⟩
/-- Without its last byte. -/
theorem ends {c0 r : List UInt8} {x : UInt8} {o : List Nd} (h : value 20 (c0 ++ [x]) = .ok (o, r)) (hr : skip r = []) (hx : x = 93 ∨ x = 125 ∨ x = 34) : value 20 c0 = .error (11, 0) ∧ c0 ≠ [] := by
  have hb := skip_nil hr
  obtain ⟨c, e, hc, hf, he⟩ := (value_ext 20).2 _ _ _ h
  have hr0 : r = [] := by
    rcases List.eq_nil_or_concat r with h1 | ⟨r', y, h1⟩
    · exact h1
    · rw [List.concat_eq_append] at h1
      subst h1
      rw [← List.append_assoc] at e
      obtain ⟨_, e2⟩ := List.append_inj' e rfl
      simp only [List.cons.injEq, and_true] at e2
      rw [List.all_append, Bool.and_eq_true] at hb
      have := hb.2
      rw [← e2] at this
      rcases hx with rfl | rfl | rfl <;> exact absurd this (by decide)
  subst hr0
  rw [List.append_nil] at e
  refine ⟨he c0 x e.symm hx, ?_⟩
  rintro rfl
  rw [List.nil_append] at h
  rcases hx with rfl | rfl | rfl
  · exact absurd h (by rw [show value 20 [93] = .error (10, 1) by rfl]; simp)
  · exact absurd h (by rw [show value 20 [125] = .error (10, 1) by rfl]; simp)
  · exact absurd h (by rw [show value 20 [34] = .error (11, 0) by rfl]; simp)
end Go.Proofs.YtkcfigfhbeohfaaGreatDoor.Tp
