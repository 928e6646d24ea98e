/- No error bears the code 0 (pure). -/
import Derived.Test.YtkcfigfhbeohfaaGreatDoorTpc
namespace Go.Proofs.YtkcfigfhbeohfaaGreatDoor.Tp
theorem takeB_code {b : UInt8} {r : List UInt8} {x : Int × Nat} (h : takeB b r = .error x) : x.1 ≠ 0 := by
  unfold takeB at h
  split at h
  · cases h; simp
  · split at h
    · cases h
    · cases h; simp
theorem str_code : ∀ (k : Nat) (r acc : List UInt8) (x : Int × Nat), r.length < k → str r acc = .error x → x.1 ≠ 0
  | 0, _, _, _, hl, _ => by omega
  | k + 1, [], acc, x, hl, h => by
    unfold str at h
    cases h; simp
  | k + 1, c :: t, acc, x, hl, h => by
    rw [List.length_cons] at hl
    unfold str at h
    split at h
    · cases h
    · split at h
      · cases t with
        | nil => cases h; simp
        | cons y u =>
          rw [List.length_cons] at hl
          simp only at h
          split at h
          · exact str_code k u _ x (by omega) h
          · split at h
            · exact str_code k u _ x (by omega) h
            · cases h; simp
      · split at h
        · cases h; simp
        · exact str_code k t _ x (by omega) h
theorem quoted_code {r : List UInt8} {x : Int × Nat} (h : quoted r = .error x) : x.1 ≠ 0 := by
  unfold quoted at h
  cases ht : takeB 34 r with
  | error y => rw [ht] at h; cases h; exact takeB_code ht
  | ok t => rw [ht] at h; exact str_code (t.length + 1) t [] x (by omega) h
theorem word_code {r : List UInt8} {x : Int × Nat} (h : word r = .error x) : x.1 ≠ 0 := by
  unfold word at h
  simp only at h
  split at h
  · cases h
  · split at h
    · cases h
    · split at h
      · cases h
      · cases h; simp
theorem number_code {r : List UInt8} {x : Int × Nat} (h : number r = .error x) : x.1 ≠ 0 := by
  cases r with
  | nil => cases h; simp
  | cons c t =>
    simp only [number] at h
    split at h
    · cases h
    · cases h; simp
theorem row_code {σ : Type} {e : UInt8} {each : σ → List UInt8 → Except (Int × Nat) (List Nd × List UInt8 × σ)} (hE : ∀ s r x, each s r = .error x → x.1 ≠ 0) :
    ∀ (k : Nat) (s : σ) (r : List UInt8) (o : List Nd) (n : Int) (x : Int × Nat), row e each k s r o n = .error x → x.1 ≠ 0
  | 0, _, _, _, _, _, h => by simp only [row] at h; cases h; simp
  | k + 1, s, r, o, n, x, h => by
    simp only [row] at h
    cases hx : each s r with
    | error y => rw [hx] at h; cases h; exact hE _ _ _ hx
    | ok y =>
      obtain ⟨p, r1, s1⟩ := y
      rw [hx] at h
      simp only at h
      split at h
      · cases h; simp
      · split at h
        · split at h
          · exact row_code hE k _ _ _ _ _ h
          · split at h
            · cases h; simp
            · exact row_code hE k _ _ _ _ _ h
        · split at h
          · cases h
          · cases h; simp
theorem rows_code {σ : Type} {e : UInt8} {each : σ → List UInt8 → Except (Int × Nat) (List Nd × List UInt8 × σ)} (hE : ∀ s r x, each s r = .error x → x.1 ≠ 0) {s : σ} {r : List UInt8} {x : Int × Nat} (h : rows e each s r = .error x) : x.1 ≠ 0 := by
  unfold rows at h
  split at h
  · exact row_code hE _ _ _ _ _ _ h
  · split at h
    · cases h
    · exact row_code hE _ _ _ _ _ _ h
theorem elem_code {v : List UInt8 → R (List Nd)} (hv : ∀ r x, v r = .error x → x.1 ≠ 0) : ∀ s r x, elem v s r = .error x → x.1 ≠ 0 := by
  intro s r x h
  unfold elem at h
  cases hx : v r with
  | error y => rw [hx] at h; cases h; exact hv _ _ hx
  | ok y => rw [hx] at h; cases h
theorem member_code {v : List UInt8 → R (List Nd)} (hv : ∀ r x, v r = .error x → x.1 ≠ 0) : ∀ s r x, member v s r = .error x → x.1 ≠ 0 := by
  intro s r x h
  unfold member at h
  cases hq : quoted (skip r) with
  | error y => rw [hq] at h; cases h; exact quoted_code hq
  | ok y =>
    rw [hq] at h
    simp only at h
    split at h
    · cases h; simp
    · cases ht : takeB 58 y.2 with
      | error z => rw [ht] at h; cases h; exact takeB_code ht
      | ok z =>
        rw [ht] at h
        simp only at h
        cases hx : v z with
        | error w => rw [hx] at h; cases h; exact hv _ _ hx
        | ok w => rw [hx] at h; cases h
theorem value_code : ∀ (d : Nat) (r : List UInt8) (x : Int × Nat), value d r = .error x → x.1 ≠ 0
  | 0, r, x, h => by
    simp only [value] at h
    split at h <;> (cases h; simp)
  | d + 1, r, x, h => by
    have ih := value_code d
    unfold value at h
    split at h
    · cases h; simp
    · rename_i b t hs
      split at h
      · exact word_code h
      · split at h
        · exact number_code h
        · split at h
          · cases hx : str t [] with
            | error y => rw [hx] at h; cases h; exact str_code (t.length + 1) t [] _ (by omega) hx
            | ok y => rw [hx] at h; cases h
          · split at h
            · cases hx : rows 93 (elem (value d)) () t with
              | error y => rw [hx] at h; cases h; exact rows_code (elem_code ih) hx
              | ok y => rw [hx] at h; cases h
            · split at h
              · cases hx : rows 125 (member (value d)) [] t with
                | error y => rw [hx] at h; cases h; exact rows_code (member_code ih) hx
                | ok y => rw [hx] at h; cases h
              · cases h; simp
theorem value_ne {d : Nat} {r r1 : List UInt8} {o : List Nd} (h : value d r = .ok (o, r1)) : o ≠ [] := by
  cases d with
  | zero =>
    simp only [value] at h
    split at h <;> cases h
  | succ d =>
    unfold value at h
    split at h
    · cases h
    · split at h
      · unfold word at h
        simp only at h
        split at h
        · cases h; simp
        · split at h
          · cases h; simp
          · split at h
            · cases h; simp
            · cases h
      · split at h
        · simp only [number] at h
          split at h
          · cases h; simp
          · cases h
        · split at h
          · split at h
            · cases h
            · cases h; simp
          · split at h
            · split at h
              · cases h
              · cases h; simp
            · split at h
              · split at h
                · cases h
                · cases h; simp
              · cases h
end Go.Proofs.YtkcfigfhbeohfaaGreatDoor.Tp
