/- Rows between commas, as the reader's loops go through them. -/
import Derived.Test.YtkcfigfhbeohfaaGreatDoorTrk
namespace Go.Proofs.YtkcfigfhbeohfaaGreatDoor.Tp
section
variable {σ : Type} {e : UInt8} {each : σ → List UInt8 → Except (Int × Nat) (List Nd × List UInt8 × σ)}
/-- A row from the loop's head on: n elements are read. -/
def rowAt (e : UInt8) (each : σ → List UInt8 → Except (Int × Nat) (List Nd × List UInt8 × σ)) (k : Nat) (st : σ) (r : List UInt8) (ob : List Nd) (n : Int) : Except (Int × Nat) (List Nd × List UInt8 × Int) :=
  match r with
  | c :: t => if c = e then .ok (ob, t, n) else row e each k st (c :: t) ob (n + 1)
  | [] => row e each k st [] ob (n + 1)
theorem rowAt_ne {k : Nat} {st : σ} {r : List UInt8} {ob : List Nd} {n : Int} (h : isB e r = false) : rowAt e each k st r ob n = row e each k st r ob (n + 1) := by
  cases r with
  | nil => rfl
  | cons c t =>
    have : ¬ c = e := by simpa [isB] using h
    simp only [rowAt, if_neg this]
theorem rows_at (s : σ) (r : List UInt8) : ∃ k, (skip r).length < k ∧ k ≤ r.length + 1 ∧ rows e each s r = rowAt e each k s (skip r) [] 0 := by
  unfold rows
  cases hs : skip r with
  | nil => exact ⟨1, by simp, by omega, rfl⟩
  | cons c t =>
    refine ⟨r.length + 1, ?_, Nat.le_refl _, rfl⟩
    have := skip_le r
    rw [hs] at this; omega
/-- A row's own node behind it. -/
def finL (nk : Int) (y : Except (Int × Nat) (List Nd × List UInt8 × Int)) : R (List Nd) :=
  match y with
  | .error e => .error e
  | .ok (o', r1, m) => .ok (o' ++ [nd nk 0 m], r1)
/-- What the row comes to, its own node behind it. -/
def rowFin (nk : Int) (e : UInt8) (each : σ → List UInt8 → Except (Int × Nat) (List Nd × List UInt8 × σ)) (k : Nat) (st : σ) (x : R (List Nd)) (n : Int) : R (List Nd) :=
  match x with
  | .error e => .error e
  | .ok (ob, r) => finL nk (rowAt e each k st r ob n)
/-- Behind an element. -/
def xrow (ob : List Nd) (y : Except (Int × Nat) (List Nd × List UInt8 × σ)) : R (List Nd) :=
  match y with
  | .error e => .error e
  | .ok (p, r1, _) => .ok (ob ++ p, skip r1)
theorem fin_wrong {nk : Int} {k : Nat} {st : σ} {n : Int} (p : Int × Nat) (x : R (List Nd)) : rowFin nk e each k st (xwrong p x) n = xwrong p x := by
  cases x <;> rfl
theorem fin_close {nk : Int} {k : Nat} {st : σ} {ob : List Nd} {r : List UInt8} {n : Int} (h : isB e r = true) (hb : blank e = false) : rowFin nk e each k st (.ok (ob, r)) n = xput (nd nk 0 n) (xsign e (.ok (ob, r))) := by
  cases r with
  | nil => cases h
  | cons c t =>
    have : c = e := by simpa [isB] using h
    subst this
    simp [rowFin, finL, rowAt, xsign, takeB, skip_nb hb, xput]
theorem row_brk {nk : Int} {k : Nat} {st : σ} {ob : List Nd} {r : List UInt8} {n : Int} (h : isB e r = false) (h44 : ∀ ob' r', xrow ob (each st r) = .ok (ob', r') → isB 44 r' = false) :
    rowFin nk e each (k + 1) st (.ok (ob, r)) n = xput (nd nk 0 (n + 1)) (xsign e (xrow ob (each st r))) := by
  simp only [rowFin, finL, rowAt_ne h, row]
  cases hx : each st r with
  | error x => rfl
  | ok y =>
    obtain ⟨p, r1, s1⟩ := y
    rw [hx] at h44
    have h1 := h44 _ _ rfl
    simp only [xrow, xsign, takeB, skip_skip]
    cases hs : skip r1 with
    | nil => rfl
    | cons c t =>
      rw [hs] at h1
      have hc : ¬ c = 44 := by simpa [isB] using h1
      simp only [if_neg hc]
      by_cases hce : c = e
      · simp only [if_pos hce, xput]
      · simp only [if_neg hce, xput]
theorem row_close {nk : Int} {k : Nat} {st : σ} {ob : List Nd} {r : List UInt8} {n : Int} {K : Nat} (h : isB e r = false) (h44 : ∀ ob' r', xrow ob (each st r) = .ok (ob', r') → isB 44 r' = true)
    (hc : ∀ ob' r', xskip (xdrop (xrow ob (each st r))) = .ok (ob', r') → isB e r' = true ∧ K = r'.length) :
    rowFin nk e each (k + 1) st (.ok (ob, r)) n = xwrong (10, K) (xskip (xdrop (xrow ob (each st r)))) := by
  simp only [rowFin, finL, rowAt_ne h, row]
  cases hx : each st r with
  | error x => rfl
  | ok y =>
    obtain ⟨p, r1, s1⟩ := y
    rw [hx] at h44 hc
    have h1 := h44 _ _ rfl
    simp only [xrow] at hc ⊢
    cases hs : skip r1 with
    | nil => rw [hs] at h1; cases h1
    | cons c t =>
      rw [hs] at h1 hc
      have hcc : c = 44 := by simpa [isB] using h1
      simp only [if_pos hcc]
      have h2 := hc (ob ++ p) (skip t) rfl
      simp only [xdrop, xskip, xwrong, List.tail_cons]
      cases hst : skip t with
      | nil => rw [hst] at h2; cases h2.1
      | cons d u =>
        rw [hst] at h2
        have hd : d = e := by simpa [isB] using h2.1
        simp only [if_pos hd]
        rw [h2.2, List.length_cons]
theorem row_next {nk : Int} {k : Nat} {st st1 : σ} {ob : List Nd} {r : List UInt8} {n : Int} (h : isB e r = false) (h44 : ∀ ob' r', xrow ob (each st r) = .ok (ob', r') → isB 44 r' = true)
    (hc : ∀ ob' r', xskip (xdrop (xrow ob (each st r))) = .ok (ob', r') → isB e r' = false) (hst : ∀ p r1 s1, each st r = .ok (p, r1, s1) → st1 = s1) :
    rowFin nk e each (k + 1) st (.ok (ob, r)) n = rowFin nk e each k st1 (xskip (xdrop (xrow ob (each st r)))) (n + 1) := by
  simp only [rowFin, finL, rowAt_ne h, row]
  cases hx : each st r with
  | error x => rfl
  | ok y =>
    obtain ⟨p, r1, s1⟩ := y
    rw [hx] at h44 hc
    obtain rfl := hst _ _ _ hx
    have h1 := h44 _ _ rfl
    simp only [xrow] at hc ⊢
    cases hs : skip r1 with
    | nil => rw [hs] at h1; cases h1
    | cons c t =>
      rw [hs] at h1 hc
      have hcc : c = 44 := by simpa [isB] using h1
      simp only [if_pos hcc]
      have h2 := hc (ob ++ p) (skip t) rfl
      simp only [xdrop, xskip, List.tail_cons]
      rw [rowAt_ne h2]
      cases hst : skip t with
      | nil => rfl
      | cons d u =>
        rw [hst] at h2
        have hd : ¬ d = e := by simpa [isB] using h2
        simp only [if_neg hd]
/-- What is left gets less; what is read gets no more than what was taken. -/
theorem row_less {ob ob' : List Nd} {st : σ} {r r' : List UInt8} (hE : Eats each) (hS : Small each) (h : xskip (xdrop (xrow ob (each st r))) = .ok (ob', r')) : r'.length < r.length ∧ ob'.length + r'.length ≤ ob.length + r.length := by
  cases hx : each st r with
  | error x => rw [hx] at h; cases h
  | ok y =>
    obtain ⟨p, r1, s1⟩ := y
    rw [hx] at h
    simp only [xrow, xdrop, xskip, Except.ok.injEq, Prod.mk.injEq] at h
    obtain ⟨rfl, rfl⟩ := h
    obtain ⟨cc, e1, n1, _⟩ := hE _ _ _ _ _ hx
    have h1 := hS _ _ _ _ _ hx
    have h2 := skip_le (skip r1).tail
    have h3 := skip_le r1
    have h4 : (skip r1).tail.length ≤ (skip r1).length := by rw [List.length_tail]; omega
    have h5 := congrArg List.length e1
    have h6 : 1 ≤ cc.length := by cases cc with | nil => exact absurd rfl n1 | cons => simp
    rw [List.length_append] at h5 ⊢
    omega
end
theorem xskip_self {x : R (List Nd)} {ob : List Nd} {r : List UInt8} (h : xskip x = .ok (ob, r)) : skip r = r := by
  cases x with
  | error e => cases h
  | ok y => obtain ⟨o1, r1⟩ := y; cases h; exact skip_skip r1
theorem xwrong_ne {x : R (List Nd)} {e : Int × Nat} {y : List Nd × List UInt8} (h : xwrong e x = .ok y) : False := by
  cases x <;> cases h
theorem xval_row (d : Nat) (ob : List Nd) (r : List UInt8) : xskip (xval d (.ok (ob, r))) = xrow ob (elem (value d) () r) := by
  simp only [xval, elem]
  cases value d r with
  | error e => rfl
  | ok y => obtain ⟨p, r1⟩ := y; rfl
end Go.Proofs.YtkcfigfhbeohfaaGreatDoor.Tp
