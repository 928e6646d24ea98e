/- A value has no more nodes than bytes; deeper by one. -/
import Derived.Test.YtkcfigfhbeohfaaGreatDoorTpb
namespace Go.Proofs.YtkcfigfhbeohfaaGreatDoor.Tp

def Small {σ : Type} (each : σ → List UInt8 → Except (Int × Nat) (List Nd × List UInt8 × σ)) : Prop := ∀ st r o r1 st1, each st r = .ok (o, r1, st1) → o.length + r1.length ≤ r.length
theorem skip_le (r : List UInt8) : (skip r).length ≤ r.length := by
  obtain ⟨c, e, _⟩ := skip_self r
  have := congrArg List.length e
  rw [List.length_append] at this
  omega
theorem row_len {σ : Type} {e : UInt8} {each : σ → List UInt8 → Except (Int × Nat) (List Nd × List UInt8 × σ)} (hE : Small each) : ∀ (k : Nat) (s : σ) (r : List UInt8) (o : List Nd) (n : Int) (o' : List Nd) (r1 : List UInt8) (n' : Int), row e each k s r o n = .ok (o', r1, n') → o'.length + r1.length + 1 ≤ o.length + r.length
  | 0, _, _, _, _, _, _, _, h => by simp [row] at h
  | k + 1, s, r, o, n, o', r1, n', h => by
    simp only [row] at h
    cases hx : each s r with
    | error x => rw [hx] at h; cases h
    | ok y =>
      obtain ⟨p, q, s1⟩ := y
      rw [hx] at h
      simp only at h
      have h1 := hE s r p q s1 hx
      have h2 := skip_le q
      cases hs : skip q with
      | nil => rw [hs] at h; cases h
      | cons c t =>
        rw [hs] at h h2
        simp only at h
        rw [List.length_cons] at h2
        by_cases h44 : c = 44
        · rw [if_pos h44] at h
          have h3 := skip_le t
          cases ht : skip t with
          | nil =>
            rw [ht] at h
            have := row_len hE k s1 [] _ _ _ _ _ h
            rw [List.length_append] at this
            simp only [List.length_nil] at this
            omega
          | cons d u =>
            rw [ht] at h h3
            simp only at h
            by_cases hd : d = e
            · rw [if_pos hd] at h; cases h
            · rw [if_neg hd] at h
              have := row_len hE k s1 (d :: u) _ _ _ _ _ h
              rw [List.length_append] at this
              omega
        · rw [if_neg h44] at h
          by_cases hce : c = e
          · rw [if_pos hce] at h
            cases h
            rw [List.length_append]
            omega
          · rw [if_neg hce] at h; cases h
theorem rows_len {σ : Type} {e : UInt8} {each : σ → List UInt8 → Except (Int × Nat) (List Nd × List UInt8 × σ)} (hE : Small each) {s : σ} {r : List UInt8} {o : List Nd} {r1 : List UInt8} {n : Int} (h : rows e each s r = .ok (o, r1, n)) : o.length + r1.length + 1 ≤ r.length := by
  unfold rows at h
  have h1 := skip_le r
  cases hs : skip r with
  | nil => rw [hs] at h; have := row_len hE _ _ _ _ _ _ _ _ h; simp at this
  | cons d u =>
    rw [hs] at h h1
    simp only at h
    by_cases hd : d = e
    · rw [if_pos hd] at h
      cases h
      simp at h1 ⊢; omega
    · rw [if_neg hd] at h
      have := row_len hE _ _ _ _ _ _ _ _ h
      simp at this h1; omega
theorem elem_len {v : List UInt8 → R (List Nd)} (h : ∀ r o r1, v r = .ok (o, r1) → o.length + r1.length ≤ r.length) : Small (elem v) := by
  intro st r o r1 st1 hr
  unfold elem at hr
  cases hv : v r with
  | error x => rw [hv] at hr; cases hr
  | ok y => obtain ⟨o2, q⟩ := y; rw [hv] at hr; cases hr; exact h _ _ _ hv
theorem member_len {v : List UInt8 → R (List Nd)} (h : ∀ r o r1, v r = .ok (o, r1) → o.length + r1.length ≤ r.length) : Small (member v) := by
  intro st r o r1 st1 hr
  unfold member at hr
  have h0 := skip_le r
  cases hq : quoted (skip r) with
  | error x => rw [hq] at hr; cases hr
  | ok y =>
    obtain ⟨key, q⟩ := y
    rw [hq] at hr
    simp only at hr
    obtain ⟨c1, e1, _⟩ := quoted_ext hq
    have l1 := congrArg List.length e1
    rw [List.length_append, List.length_cons] at l1
    by_cases hk : key ∈ st
    · rw [if_pos hk] at hr; cases hr
    · rw [if_neg hk] at hr
      cases ht : takeB 58 q with
      | error x => rw [ht] at hr; cases hr
      | ok t =>
        rw [ht] at hr
        simp only at hr
        obtain ⟨c2, e2, _⟩ := takeB_ext ht
        have l2 := congrArg List.length e2
        rw [List.length_append, List.length_cons] at l2
        cases hv : v t with
        | error x => rw [hv] at hr; cases hr
        | ok y =>
          obtain ⟨o2, q3⟩ := y
          rw [hv] at hr
          cases hr
          have := h _ _ _ hv
          rw [List.length_append]
          simp only [List.length_cons, List.length_nil]
          omega
theorem value_len : ∀ d r o r1, value d r = .ok (o, r1) → o.length + r1.length ≤ r.length
  | 0, r, o, r1, h => by
    simp only [value] at h
    split at h <;> cases h
  | d + 1, r, o, r1, h => by
    have ih := value_len d
    have h0 := skip_le r
    simp only [value] at h
    cases hs : skip r with
    | nil => rw [hs] at h; cases h
    | cons b t =>
      rw [hs] at h h0
      simp only at h
      rw [List.length_cons] at h0
      by_cases h1 : small b = true
      · rw [if_pos h1] at h
        have hl : (b :: t).dropWhile small = t.dropWhile small := List.dropWhile_cons_of_pos h1
        have hd : (t.dropWhile small).length ≤ t.length := (List.dropWhile_sublist _).length_le
        unfold word at h
        simp only [hl] at h
        (repeat' split at h) <;> cases h <;> simp <;> omega
      · rw [if_neg h1] at h
        by_cases h2 : (digit b || b == 45) = true
        · rw [if_pos h2] at h
          have hd : (t.dropWhile digit).length ≤ t.length := (List.dropWhile_sublist _).length_le
          simp only [number] at h
          split at h <;> cases h
          simp; omega
        · rw [if_neg h2] at h
          by_cases h3 : b = 34
          · rw [if_pos h3] at h
            cases hq : str t [] with
            | error x => rw [hq] at h; cases h
            | ok y =>
              obtain ⟨s, q⟩ := y
              rw [hq] at h
              cases h
              obtain ⟨c, e, _⟩ := str_ext _ t [] s r1 (Nat.lt_succ_self _) hq
              have := congrArg List.length e
              rw [List.length_append, List.length_cons] at this
              simp; omega
          · rw [if_neg h3] at h
            by_cases h4 : b = 91
            · rw [if_pos h4] at h
              cases hq : rows 93 (elem (value d)) () t with
              | error x => rw [hq] at h; cases h
              | ok y =>
                obtain ⟨p, q, n⟩ := y
                rw [hq] at h
                cases h
                have := rows_len (elem_len ih) hq
                rw [List.length_append]; simp; omega
            · rw [if_neg h4] at h
              by_cases h5 : b = 123
              · rw [if_pos h5] at h
                cases hq : rows 125 (member (value d)) [] t with
                | error x => rw [hq] at h; cases h
                | ok y =>
                  obtain ⟨p, q, n⟩ := y
                  rw [hq] at h
                  cases h
                  have := rows_len (member_len ih) hq
                  rw [List.length_append]; simp; omega
              · rw [if_neg h5] at h; cases h

/-! ### One deeper: what is told so deep is told one less deep too, or it is too deep. -/
def Deep {α : Type} (x y : Except (Int × Nat) α) : Prop := ∀ z, x = .ok z → y = .ok z ∨ ∃ p, y = .error (12, p)
theorem row_deep {σ : Type} {e : UInt8} {f g : σ → List UInt8 → Except (Int × Nat) (List Nd × List UInt8 × σ)} (h : ∀ s r, Deep (f s r) (g s r)) : ∀ (k : Nat) (s : σ) (r : List UInt8) (o : List Nd) (n : Int), Deep (row e f k s r o n) (row e g k s r o n)
  | 0, _, _, _, _ => fun z hz => by simp [row] at hz
  | k + 1, s, r, o, n => fun z hz => by
    simp only [row] at hz ⊢
    cases hx : f s r with
    | error x => rw [hx] at hz; cases hz
    | ok y =>
      rw [hx] at hz
      rcases h s r y hx with h1 | ⟨p, h1⟩
      · rw [h1]
        obtain ⟨p, q, s1⟩ := y
        simp only at hz ⊢
        cases hs : skip q with
        | nil => rw [hs] at hz; cases hz
        | cons c t =>
          rw [hs] at hz
          simp only at hz ⊢
          by_cases h44 : c = 44
          · rw [if_pos h44] at hz ⊢
            cases ht : skip t with
            | nil => rw [ht] at hz; exact row_deep h k _ _ _ _ z hz
            | cons d u =>
              rw [ht] at hz
              simp only at hz ⊢
              by_cases hd : d = e
              · rw [if_pos hd] at hz; cases hz
              · rw [if_neg hd] at hz ⊢
                exact row_deep h k _ _ _ _ z hz
          · rw [if_neg h44] at hz ⊢
            exact .inl hz
      · rw [h1]; exact .inr ⟨p, rfl⟩
theorem rows_deep {σ : Type} {e : UInt8} {f g : σ → List UInt8 → Except (Int × Nat) (List Nd × List UInt8 × σ)} (h : ∀ s r, Deep (f s r) (g s r)) (s : σ) (r : List UInt8) : Deep (rows e f s r) (rows e g s r) := by
  intro z hz
  unfold rows at hz ⊢
  cases hs : skip r with
  | nil => rw [hs] at hz; exact row_deep h _ _ _ _ _ z hz
  | cons d u =>
    rw [hs] at hz
    simp only at hz ⊢
    by_cases hd : d = e
    · rw [if_pos hd] at hz ⊢; exact .inl hz
    · rw [if_neg hd] at hz ⊢; exact row_deep h _ _ _ _ _ z hz
theorem elem_deep {v w : List UInt8 → R (List Nd)} (h : ∀ r, Deep (v r) (w r)) (s : Unit) (r : List UInt8) : Deep (elem v s r) (elem w s r) := by
  intro z hz
  unfold elem at hz ⊢
  cases hv : v r with
  | error x => rw [hv] at hz; cases hz
  | ok y =>
    rw [hv] at hz
    rcases h r y hv with h1 | ⟨p, h1⟩
    · rw [h1]; exact .inl hz
    · rw [h1]; exact .inr ⟨p, rfl⟩
theorem member_deep {v w : List UInt8 → R (List Nd)} (h : ∀ r, Deep (v r) (w r)) (s : List (List UInt8)) (r : List UInt8) : Deep (member v s r) (member w s r) := by
  intro z hz
  unfold member at hz ⊢
  cases hq : quoted (skip r) with
  | error x => rw [hq] at hz; cases hz
  | ok y =>
    obtain ⟨key, q⟩ := y
    rw [hq] at hz
    simp only at hz ⊢
    by_cases hk : key ∈ s
    · rw [if_pos hk] at hz; cases hz
    · rw [if_neg hk] at hz ⊢
      cases ht : takeB 58 q with
      | error x => rw [ht] at hz; cases hz
      | ok t =>
        rw [ht] at hz
        simp only at hz ⊢
        cases hv : v t with
        | error x => rw [hv] at hz; cases hz
        | ok y =>
          rw [hv] at hz
          rcases h t y hv with h1 | ⟨p, h1⟩
          · rw [h1]; exact .inl hz
          · rw [h1]; exact .inr ⟨p, rfl⟩
theorem value_deep : ∀ d r, Deep (value (d + 1) r) (value d r)
  | d, r => fun z hz => by
    cases d with
    | zero =>
      simp only [value] at hz ⊢
      cases hs : skip r with
      | nil => rw [hs] at hz; cases hz
      | cons b t => exact .inr ⟨_, rfl⟩
    | succ d =>
      have ih := value_deep d
      rw [show value (d + 1 + 1) r = _ from rfl] at hz
      unfold value at hz ⊢
      cases hs : skip r with
      | nil => rw [hs] at hz; cases hz
      | cons b t =>
        rw [hs] at hz
        simp only at hz ⊢
        by_cases h1 : small b = true
        · rw [if_pos h1] at hz ⊢; exact .inl hz
        · rw [if_neg h1] at hz ⊢
          by_cases h2 : (digit b || b == 45) = true
          · rw [if_pos h2] at hz ⊢; exact .inl hz
          · rw [if_neg h2] at hz ⊢
            by_cases h3 : b = 34
            · rw [if_pos h3] at hz ⊢; exact .inl hz
            · rw [if_neg h3] at hz ⊢
              by_cases h4 : b = 91
              · rw [if_pos h4] at hz ⊢
                cases hq : rows 93 (elem (value (d + 1))) () t with
                | error x => rw [hq] at hz; cases hz
                | ok y =>
                  rw [hq] at hz
                  rcases rows_deep (elem_deep ih) () t y hq with h5 | ⟨p, h5⟩
                  · rw [h5]; exact .inl hz
                  · rw [h5]; exact .inr ⟨p, rfl⟩
              · rw [if_neg h4] at hz ⊢
                by_cases h5 : b = 123
                · rw [if_pos h5] at hz ⊢
                  cases hq : rows 125 (member (value (d + 1))) [] t with
                  | error x => rw [hq] at hz; cases hz
                  | ok y =>
                    rw [hq] at hz
                    rcases rows_deep (member_deep ih) [] t y hq with h6 | ⟨p, h6⟩
                    · rw [h6]; exact .inl hz
                    · rw [h6]; exact .inr ⟨p, rfl⟩
                · rw [if_neg h5] at hz ⊢; exact .inl hz
end Go.Proofs.YtkcfigfhbeohfaaGreatDoor.Tp
