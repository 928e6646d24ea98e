/- Texts of the claim, merged. -/
set_option linter.unusedVariables false
set_option linter.unusedSimpArgs false
namespace Go.Proofs.YtoefnmhmiphilaaGreatDoor.Tp

structure Nd where
  f0 : Int
  f1 : ByteArray
  f2 : Int
  f3 : Int
abbrev R (α : Type) := Except (Int × Nat) (α × List UInt8)
def blank (c : UInt8) : Bool := c == 32 || c == 10 || c == 9
def skip (r : List UInt8) : List UInt8 := r.dropWhile blank
def odd (r : List UInt8) : Int × Nat := if r = [] then (11, 0) else (10, r.length)
def takeB (b : UInt8) (r : List UInt8) : Except (Int × Nat) (List UInt8) :=
  match skip r with
  | [] => .error (11, 0)
  | c :: t => if c = b then .ok t else .error (10, t.length + 1)
def small (c : UInt8) : Bool := decide (97 ≤ c.toNat) && decide (c.toNat ≤ 122)
def digit (c : UInt8) : Bool := decide (48 ≤ c.toNat) && decide (c.toNat ≤ 57)
def nd (k n kids : Int) : Nd := ⟨k, ⟨#[]⟩, n, kids⟩
def word (r : List UInt8) : R (List Nd) :=
  let w := r.takeWhile small
  if w = [110, 117, 108, 108] then .ok ([nd 1 0 0], r.dropWhile small)
  else if w = [116, 114, 117, 101] then .ok ([nd 2 1 0], r.dropWhile small)
  else if w = [102, 97, 108, 115, 101] then .ok ([nd 2 0 0], r.dropWhile small)
  else .error (10, r.length)
def val : List UInt8 → Int → Int
  | [], n => n
  | c :: t, n => val t (10 * n + ((c.toNat : Int) - 48))
def num (s : List UInt8) : Option Int :=
  let d := if s.head? = some 45 then s.tail else s
  if d = [] ∨ 6 < d.length ∨ d.all digit = false ∨ d.head? = some 48 ∧ s ≠ [48] then none
  else some (if s.head? = some 45 then - val d 0 else val d 0)
def number : List UInt8 → R (List Nd)
  | [] => .error (10, 0)
  | c :: t => match num (c :: t.takeWhile digit) with
    | some n => .ok ([nd 3 n 0], t.dropWhile digit)
    | none => .error (10, t.length + 1)
def str : List UInt8 → List UInt8 → R (List UInt8)
  | [], _ => .error (11, 0)
  | x :: t, acc =>
    if x = 34 then .ok (acc, t)
    else if x = 92 then
      match t with
      | [] => .error (11, 0)
      | y :: u => if y = 34 ∨ y = 92 then str u (acc ++ [y]) else if y = 110 then str u (acc ++ [10]) else .error (10, u.length + 2)
    else if x.toNat < 32 ∨ 126 < x.toNat then .error (10, t.length + 1)
    else str t (acc ++ [x])
def quoted (r : List UInt8) : R (List UInt8) :=
  match takeB 34 r with
  | .error e => .error e
  | .ok t => str t []
def row {σ : Type} (e : UInt8) (each : σ → List UInt8 → Except (Int × Nat) (List Nd × List UInt8 × σ)) : Nat → σ → List UInt8 → List Nd → Int → Except (Int × Nat) (List Nd × List UInt8 × Int)
  | 0, _, _, _, _ => .error (11, 0)
  | k + 1, s, r, o, n =>
    match each s r with
    | .error x => .error x
    | .ok (p, r1, s1) =>
      match skip r1 with
      | [] => .error (11, 0)
      | c :: t =>
        if c = 44 then
          match skip t with
          | [] => row e each k s1 [] (o ++ p) (n + 1)
          | d :: u => if d = e then .error (10, u.length + 1) else row e each k s1 (d :: u) (o ++ p) (n + 1)
        else if c = e then .ok (o ++ p, t, n)
        else .error (10, t.length + 1)
def rows {σ : Type} (e : UInt8) (each : σ → List UInt8 → Except (Int × Nat) (List Nd × List UInt8 × σ)) (s : σ) (r : List UInt8) : Except (Int × Nat) (List Nd × List UInt8 × Int) :=
  match skip r with
  | [] => row e each 1 s [] [] 1
  | c :: t => if c = e then .ok ([], t, 0) else row e each (r.length + 1) s (c :: t) [] 1
def elem (v : List UInt8 → R (List Nd)) (_ : Unit) (r : List UInt8) : Except (Int × Nat) (List Nd × List UInt8 × Unit) :=
  match v r with
  | .error x => .error x
  | .ok (p, r1) => .ok (p, r1, ())
def member (v : List UInt8 → R (List Nd)) (ks : List (List UInt8)) (r : List UInt8) : Except (Int × Nat) (List Nd × List UInt8 × List (List UInt8)) :=
  match quoted (skip r) with
  | .error x => .error x
  | .ok (key, r1) =>
    if key ∈ ks then .error (13, (skip r).length)
    else match takeB 58 r1 with
      | .error x => .error x
      | .ok r2 => match v r2 with
        | .error x => .error x
        | .ok (p, r3) => .ok (p ++ [⟨6, ⟨key.toArray⟩, 0, 1⟩], r3, ks ++ [key])
def value : Nat → List UInt8 → R (List Nd)
  | 0, r => match skip r with
    | [] => .error (11, 0)
    | _ :: t => .error (12, t.length + 1)
  | d + 1, r => match skip r with
    | [] => .error (11, 0)
    | b :: t =>
      if small b then word (b :: t)
      else if digit b || b == 45 then number (b :: t)
      else if b = 34 then (match str t [] with
        | .error x => .error x
        | .ok (s, r1) => .ok ([⟨4, ⟨s.toArray⟩, 0, 0⟩], r1))
      else if b = 91 then (match rows 93 (elem (value d)) () t with
        | .error x => .error x
        | .ok (o, r1, n) => .ok (o ++ [nd 5 0 n], r1))
      else if b = 123 then (match rows 125 (member (value d)) [] t with
        | .error x => .error x
        | .ok (o, r1, n) => .ok (o ++ [nd 7 0 n], r1))
      else .error (10, t.length + 1)
def parse (s : List UInt8) : Except (Int × Nat) (List Nd) :=
  if 20000 < s.length then .error (2, 0)
  else match value 20 s with
    | .error (c, p) => .error (c, s.length - p)
    | .ok (o, r) => match skip r with
      | [] => if o.length ≤ 2000 then .ok o else .error (2, 0)
      | _ :: t => .error (10, s.length - (t.length + 1))
def esc (c : UInt8) : Option (List UInt8) :=
  if c = 34 ∨ c = 92 then some [92, c] else if c = 10 then some [92, 110] else if c.toNat < 32 ∨ 126 < c.toNat then none else some [c]
def escs : List UInt8 → Option (List UInt8)
  | [] => some []
  | c :: t => match esc c, escs t with
    | some x, some y => some (x ++ y)
    | _, _ => none
def quote (s : List UInt8) : Option (List UInt8) := (escs s).map fun x => [34] ++ x ++ [34]
end Go.Proofs.YtoefnmhmiphilaaGreatDoor.Tp

namespace Go.Proofs.YtoefnmhmiphilaaGreatDoor.Tp

theorem skip_self (r : List UInt8) : ∃ c, r = c ++ skip r ∧ c.all blank = true := by
  refine ⟨r.takeWhile blank, (List.takeWhile_append_dropWhile).symm, ?_⟩
  exact List.all_takeWhile
theorem skip_app {c : List UInt8} (h : c.all blank = true) (x : List UInt8) : skip (c ++ x) = skip x := by
  induction c with
  | nil => rfl
  | cons b c ih =>
    simp only [List.all_cons, Bool.and_eq_true] at h
    show List.dropWhile blank (b :: (c ++ x)) = _
    rw [List.dropWhile_cons_of_pos h.1]
    exact ih h.2
theorem skip_nb {b : UInt8} (h : blank b = false) (t : List UInt8) : skip (b :: t) = b :: t := by
  unfold skip
  rw [List.dropWhile_cons_of_neg (by rw [h]; simp)]
theorem skip_head : ∀ {r : List UInt8} {b : UInt8} {t : List UInt8}, skip r = b :: t → blank b = false
  | c :: r, b, t, h => by
    unfold skip at h
    by_cases hc : blank c = true
    · rw [List.dropWhile_cons_of_pos hc] at h
      exact skip_head (r := r) h
    · rw [List.dropWhile_cons_of_neg hc] at h
      cases h
      simpa using hc
theorem skip_cons {r : List UInt8} {b : UInt8} {t : List UInt8} (h : skip r = b :: t) : ∃ c, r = c ++ b :: t ∧ c.all blank = true ∧ blank b = false := by
  obtain ⟨c, h1, h2⟩ := skip_self r
  rw [h] at h1
  exact ⟨c, h1, h2, skip_head h⟩
theorem skip_nil {r : List UInt8} (h : skip r = []) : r.all blank = true := by
  obtain ⟨c, h1, h2⟩ := skip_self r
  rw [h, List.append_nil] at h1
  rw [h1]; exact h2
theorem skip_all {r : List UInt8} (h : r.all blank = true) : skip r = [] := by
  have := skip_app h []
  rw [List.append_nil] at this
  rw [this]; rfl
theorem skip_skip (r : List UInt8) : skip (skip r) = skip r := by
  cases h : skip r with
  | nil => rfl
  | cons b t => exact skip_nb (skip_head h) t
theorem skip_blank {c : List UInt8} (h : c.all blank = true) {b : UInt8} (hb : blank b = false) (t : List UInt8) : skip (c ++ b :: t) = b :: t := by
  rw [skip_app h, skip_nb hb]

def Follow (x : List UInt8) : Prop := ∀ c t, x = c :: t → small c = false ∧ digit c = false
theorem follow_nil : Follow [] := fun _ _ h => by cases h
theorem follow_cons {c : UInt8} {t : List UInt8} (h : small c = false ∧ digit c = false) : Follow (c :: t) := fun _ _ e => by cases e; exact h
theorem blank_follow {c : UInt8} (h : blank c = true) : small c = false ∧ digit c = false := by
  simp only [blank, Bool.or_eq_true, beq_iff_eq] at h
  rcases h with (rfl | rfl) | rfl <;> decide
theorem follow_blank {c : List UInt8} (h : c.all blank = true) {x : List UInt8} (hx : Follow x) : Follow (c ++ x) := by
  cases c with
  | nil => exact hx
  | cons b c =>
    simp only [List.all_cons, Bool.and_eq_true] at h
    exact follow_cons (blank_follow h.1)
theorem follow_at {c : UInt8} (h : c = 44 ∨ c = 93 ∨ c = 125) (t : List UInt8) : Follow (c :: t) := follow_cons (by rcases h with rfl | rfl | rfl <;> decide)

theorem while_follow {p : UInt8 → Bool} : ∀ {w x : List UInt8}, w.all p = true → (∀ c t, x = c :: t → p c = false) → (w ++ x).takeWhile p = w ∧ (w ++ x).dropWhile p = x
  | [], [], _, _ => ⟨rfl, rfl⟩
  | [], c :: t, _, h => by
    have := h c t rfl
    rw [List.nil_append, List.takeWhile_cons_of_neg (by rw [this]; simp), List.dropWhile_cons_of_neg (by rw [this]; simp)]
    exact ⟨rfl, rfl⟩
  | a :: w, x, hw, h => by
    simp only [List.all_cons, Bool.and_eq_true] at hw
    have ih := while_follow hw.2 h
    rw [List.cons_append, List.takeWhile_cons_of_pos hw.1, List.dropWhile_cons_of_pos hw.1, ih.1, ih.2]
    exact ⟨rfl, rfl⟩
theorem take_all (p : UInt8 → Bool) (r : List UInt8) : (r.takeWhile p).all p = true := List.all_takeWhile

def Ends (c : List UInt8) (v : List UInt8 → Prop) : Prop := ∀ c0 l, c = c0 ++ [l] → l = 93 ∨ l = 125 ∨ l = 34 → v c0
theorem ends_of {c : List UInt8} {v : List UInt8 → Prop} (p : UInt8 → Bool) (h : ∀ c0 l, c = c0 ++ [l] → p l = true) (hp : p 93 = false ∧ p 125 = false ∧ p 34 = false) : Ends c v := by
  intro c0 l e hl
  have := h c0 l e
  rcases hl with rfl | rfl | rfl
  · rw [hp.1] at this; cases this
  · rw [hp.2.1] at this; cases this
  · rw [hp.2.2] at this; cases this
theorem last_all {p : UInt8 → Bool} {w : List UInt8} (h : w.all p = true) {c0 : List UInt8} {l : UInt8} (e : w = c0 ++ [l]) : p l = true := by
  rw [e, List.all_append, Bool.and_eq_true] at h
  simpa using h.2

theorem word_ext {r : List UInt8} {o : List Nd} {r1 : List UInt8} (h : word r = .ok (o, r1)) :
    ∃ c, r = c ++ r1 ∧ (∀ x, Follow x → word (c ++ x) = .ok (o, x)) ∧ ∀ v, Ends c v := by
  have hr : r1 = r.dropWhile small := by
    unfold word at h
    simp only at h
    (repeat' split at h) <;> cases h <;> rfl
  subst hr
  refine ⟨r.takeWhile small, (List.takeWhile_append_dropWhile).symm, fun x hx => ?_, fun v => ends_of small (fun c0 l e => last_all (take_all small r) e) (by decide)⟩
  have hw := while_follow (take_all small r) (fun c t e => (hx c t e).1)
  unfold word at h ⊢
  simp only at h ⊢
  rw [hw.1, hw.2]
  (repeat' split at h) <;> cases h <;> simp_all
theorem number_ext {r : List UInt8} {o : List Nd} {r1 : List UInt8} (h : number r = .ok (o, r1)) :
    ∃ c, r = c ++ r1 ∧ (∀ x, Follow x → number (c ++ x) = .ok (o, x)) ∧ ((∀ c0 l, c = c0 ++ [l] → (digit l || l == 45) = true)) := by
  cases r with
  | nil => cases h
  | cons b t =>
    simp only [number] at h
    cases hn : num (b :: t.takeWhile digit) with
    | none => rw [hn] at h; cases h
    | some n =>
      rw [hn] at h
      cases h
      refine ⟨b :: t.takeWhile digit, by rw [List.cons_append, List.takeWhile_append_dropWhile], fun x hx => ?_, fun c0 l e => ?_⟩
      · have hw := while_follow (take_all digit t) (fun c t e => (hx c t e).2)
        rw [List.cons_append]
        simp only [number]
        rw [hw.1, hw.2, hn]
      · cases c0 with
        | nil =>
          simp only [List.nil_append, List.cons.injEq] at e
          obtain ⟨rfl, e⟩ := e
          rw [e] at hn
          by_cases hb : b = 45
          · simp [hb]
          · have : digit b = true := by
              unfold num at hn
              simp only [List.head?_cons, Option.some.injEq, if_neg hb] at hn
              split at hn
              · cases hn
              · rename_i hh
                simp only [not_or] at hh
                have := hh.2.2.1
                simpa using this
            rw [this]; rfl
        | cons a c0 =>
          simp only [List.cons_append, List.cons.injEq] at e
          have := last_all (take_all digit t) e.2
          rw [this]; rfl

theorem str_ext : ∀ (k : Nat) (r acc o r1 : List UInt8), r.length < k → str r acc = .ok (o, r1) → ∃ c, r = c ++ 34 :: r1 ∧ (∀ x, str (c ++ 34 :: x) acc = .ok (o, x)) ∧ str c acc = .error (11, 0)
  | 0, _, _, _, _, hk, _ => by omega
  | _ + 1, [], _, _, _, _, h => by simp [str] at h
  | k + 1, x :: t, acc, o, r1, hk, h => by
    rw [List.length_cons] at hk
    unfold str at h
    by_cases h34 : x = 34
    · rw [if_pos h34] at h
      cases h
      subst h34
      exact ⟨[], rfl, fun x => by show str (34 :: x) acc = _; unfold str; rw [if_pos rfl], by unfold str; rfl⟩
    · rw [if_neg h34] at h
      by_cases h92 : x = 92
      · rw [if_pos h92] at h
        cases t with
        | nil => cases h
        | cons y u =>
          simp only at h
          rw [List.length_cons] at hk
          by_cases hy : y = 34 ∨ y = 92
          · rw [if_pos hy] at h
            obtain ⟨c, e, h1, h2⟩ := str_ext k u _ _ _ (by omega) h
            refine ⟨x :: y :: c, by rw [e]; rfl, fun z => ?_, ?_⟩
            · simp only [List.cons_append]; unfold str; rw [if_neg h34, if_pos h92]; simp only; rw [if_pos hy]; exact h1 z
            · unfold str; rw [if_neg h34, if_pos h92]; simp only; rw [if_pos hy]; exact h2
          · rw [if_neg hy] at h
            by_cases hn : y = 110
            · rw [if_pos hn] at h
              obtain ⟨c, e, h1, h2⟩ := str_ext k u _ _ _ (by omega) h
              refine ⟨x :: y :: c, by rw [e]; rfl, fun z => ?_, ?_⟩
              · simp only [List.cons_append]; unfold str; rw [if_neg h34, if_pos h92]; simp only; rw [if_neg hy, if_pos hn]; exact h1 z
              · unfold str; rw [if_neg h34, if_pos h92]; simp only; rw [if_neg hy, if_pos hn]; exact h2
            · rw [if_neg hn] at h; cases h
      · rw [if_neg h92] at h
        by_cases hb : x.toNat < 32 ∨ 126 < x.toNat
        · rw [if_pos hb] at h; cases h
        · rw [if_neg hb] at h
          obtain ⟨c, e, h1, h2⟩ := str_ext k t _ _ _ (by omega) h
          refine ⟨x :: c, by rw [e]; rfl, fun z => ?_, ?_⟩
          · simp only [List.cons_append]; unfold str; rw [if_neg h34, if_neg h92, if_neg hb]; exact h1 z
          · unfold str; rw [if_neg h34, if_neg h92, if_neg hb]; exact h2
theorem takeB_ext {b : UInt8} {r t : List UInt8} (h : takeB b r = .ok t) : ∃ c, r = c ++ b :: t ∧ c.all blank = true ∧ blank b = false ∧ ∀ x, takeB b (c ++ b :: x) = .ok x := by
  unfold takeB at h
  cases hs : skip r with
  | nil => rw [hs] at h; cases h
  | cons a u =>
    rw [hs] at h
    simp only at h
    by_cases ha : a = b
    · rw [if_pos ha] at h
      cases h
      subst ha
      obtain ⟨c, e, h1, h2⟩ := skip_cons hs
      refine ⟨c, e, h1, h2, fun x => ?_⟩
      unfold takeB
      rw [skip_blank h1 h2]
      simp
    · rw [if_neg ha] at h; cases h
theorem quoted_ext {r o r1 : List UInt8} (h : quoted r = .ok (o, r1)) : ∃ c, r = c ++ 34 :: r1 ∧ ∀ x, quoted (c ++ 34 :: x) = .ok (o, x) := by
  unfold quoted at h
  cases ht : takeB 34 r with
  | error e => rw [ht] at h; cases h
  | ok t =>
    rw [ht] at h
    obtain ⟨c, e, _, _, h1⟩ := takeB_ext ht
    obtain ⟨c2, e2, h2, _⟩ := str_ext _ t [] o r1 (Nat.lt_succ_self _) h
    refine ⟨c ++ 34 :: c2, by rw [e, e2]; simp, fun x => ?_⟩
    unfold quoted
    rw [List.append_assoc, List.cons_append, h1]
    exact h2 x
def EachExt {σ : Type} (each : σ → List UInt8 → Except (Int × Nat) (List Nd × List UInt8 × σ)) : Prop :=
  (∀ s, each s [] = .error (11, 0)) ∧ ∀ s r p r1 s1, each s r = .ok (p, r1, s1) → ∃ c, r = c ++ r1 ∧ c ≠ [] ∧ ∀ x, Follow x → each s (c ++ x) = .ok (p, x, s1)
theorem row_ext {σ : Type} {e : UInt8} (he : e = 93 ∨ e = 125) {each : σ → List UInt8 → Except (Int × Nat) (List Nd × List UInt8 × σ)} (hE : EachExt each) :
    ∀ (k : Nat) (s : σ) (r : List UInt8) (o : List Nd) (n : Int) (o' : List Nd) (r1 : List UInt8) (n' : Int), row e each k s r o n = .ok (o', r1, n') →
      ∃ c, r = c ++ e :: r1 ∧ (∀ K x, c.length < K → row e each K s (c ++ e :: x) o n = .ok (o', x, n')) ∧ ∀ K, row e each K s c o n = .error (11, 0)
  | 0, _, _, _, _, _, _, _, h => by simp [row] at h
  | k + 1, s, r, o, n, o', r1, n', h => by
    have he44 : ¬ e = 44 := by rcases he with rfl | rfl <;> decide
    have heb : blank e = false := by rcases he with rfl | rfl <;> decide
    simp only [row] at h
    cases hx : each s r with
    | error x => rw [hx] at h; cases h
    | ok y =>
      obtain ⟨p, q, s1⟩ := y
      rw [hx] at h
      simp only at h
      obtain ⟨c1, e1, n1, h1⟩ := hE.2 s r p q s1 hx
      cases hs : skip q with
      | nil => rw [hs] at h; cases h
      | cons c t =>
        rw [hs] at h
        simp only at h
        obtain ⟨b1, eb1, ab1, nb1⟩ := skip_cons hs
        by_cases h44 : c = 44
        · rw [if_pos h44] at h
          subst h44
          cases ht : skip t with
          | nil =>
            rw [ht] at h
            simp only at h
            cases k with
            | zero => simp [row] at h
            | succ k => simp only [row, hE.1] at h; cases h
          | cons d u =>
            rw [ht] at h
            simp only at h
            by_cases hd : d = e
            · rw [if_pos hd] at h; cases h
            · rw [if_neg hd] at h
              obtain ⟨b2, eb2, ab2, nb2⟩ := skip_cons ht
              obtain ⟨c2, e2, h2, h3⟩ := row_ext he hE k s1 (d :: u) _ _ o' r1 n' h
              obtain ⟨c3, rfl⟩ : ∃ c3, c2 = d :: c3 := by
                cases c2 with
                | nil => simp only [List.nil_append, List.cons.injEq] at e2; exact absurd e2.1 hd
                | cons a c3 => simp only [List.cons_append, List.cons.injEq] at e2; exact ⟨c3, by rw [e2.1]⟩
              refine ⟨c1 ++ (b1 ++ 44 :: (b2 ++ d :: c3)), by rw [e1, eb1, eb2, e2]; simp, fun K x hK => ?_, fun K => ?_⟩
              · simp only [List.length_append, List.length_cons] at hK
                obtain ⟨K, rfl⟩ : ∃ j, K = j + 1 := ⟨K - 1, by omega⟩
                have hf := h1 (b1 ++ 44 :: (b2 ++ d :: (c3 ++ e :: x))) (follow_blank ab1 (follow_at (.inl rfl) _))
                have e3 : c1 ++ (b1 ++ 44 :: (b2 ++ d :: c3)) ++ e :: x = c1 ++ (b1 ++ 44 :: (b2 ++ d :: (c3 ++ e :: x))) := by simp
                rw [e3]
                simp only [row, hf, skip_blank ab1 (by decide : blank 44 = false), if_true, skip_blank ab2 nb2]
                rw [if_neg hd]
                exact h2 K x (by simp only [List.length_cons]; omega)
              · cases K with
                | zero => simp [row]
                | succ K =>
                  have hf := h1 (b1 ++ 44 :: (b2 ++ d :: c3)) (follow_blank ab1 (follow_at (.inl rfl) _))
                  simp only [row, hf, skip_blank ab1 (by decide : blank 44 = false), if_true, skip_blank ab2 nb2]
                  rw [if_neg hd]
                  exact h3 K
        · rw [if_neg h44] at h
          by_cases hce : c = e
          · rw [if_pos hce] at h
            cases h
            subst hce
            refine ⟨c1 ++ b1, by rw [e1, eb1]; simp, fun K x hK => ?_, fun K => ?_⟩
            · obtain ⟨K, rfl⟩ : ∃ j, K = j + 1 := ⟨K - 1, by omega⟩
              have hf := h1 (b1 ++ c :: x) (follow_blank ab1 (follow_at (by rcases he with h | h <;> simp [h]) _))
              rw [List.append_assoc]
              simp only [row, hf, skip_blank ab1 heb]
              rw [if_neg h44]; simp
            · cases K with
              | zero => simp [row]
              | succ K =>
                have hf := h1 (b1 ++ []) (follow_blank ab1 follow_nil)
                rw [List.append_nil] at hf
                simp only [row, hf, skip_all ab1]
          · rw [if_neg hce] at h; cases h
theorem rows_ext {σ : Type} {e : UInt8} (he : e = 93 ∨ e = 125) {each : σ → List UInt8 → Except (Int × Nat) (List Nd × List UInt8 × σ)} (hE : EachExt each) {s : σ} {r : List UInt8} {o : List Nd} {r1 : List UInt8} {n : Int}
    (h : rows e each s r = .ok (o, r1, n)) : ∃ c, r = c ++ e :: r1 ∧ (∀ x, rows e each s (c ++ e :: x) = .ok (o, x, n)) ∧ rows e each s c = .error (11, 0) := by
  have heb : blank e = false := by rcases he with rfl | rfl <;> decide
  unfold rows at h
  cases hs : skip r with
  | nil => rw [hs] at h; simp only [row, hE.1] at h; cases h
  | cons d u =>
    rw [hs] at h
    simp only at h
    obtain ⟨b, eb, ab, nb⟩ := skip_cons hs
    by_cases hd : d = e
    · rw [if_pos hd] at h
      cases h
      subst hd
      refine ⟨b, eb, fun x => ?_, ?_⟩
      · unfold rows; rw [skip_blank ab nb]; simp
      · unfold rows; rw [skip_all ab]; simp only [row, hE.1]
    · rw [if_neg hd] at h
      obtain ⟨c2, e2, h2, h3⟩ := row_ext he hE _ s (d :: u) _ _ o r1 n h
      obtain ⟨c3, rfl⟩ : ∃ c3, c2 = d :: c3 := by
        cases c2 with
        | nil => simp only [List.nil_append, List.cons.injEq] at e2; exact absurd e2.1 hd
        | cons a c3 => simp only [List.cons_append, List.cons.injEq] at e2; exact ⟨c3, by rw [e2.1]⟩
      refine ⟨b ++ d :: c3, by rw [eb, e2]; simp, fun x => ?_, ?_⟩
      · unfold rows
        rw [List.append_assoc, List.cons_append, skip_blank ab nb]
        simp only
        rw [if_neg hd]
        exact h2 _ x (by simp only [List.length_append, List.length_cons]; omega)
      · unfold rows
        rw [skip_blank ab nb]
        simp only
        rw [if_neg hd]
        exact h3 _
def ValExt (v : List UInt8 → R (List Nd)) : Prop :=
  v [] = .error (11, 0) ∧ ∀ r o r1, v r = .ok (o, r1) → ∃ c, r = c ++ r1 ∧ c ≠ [] ∧ (∀ x, Follow x → v (c ++ x) = .ok (o, x)) ∧ Ends c (fun c0 => v c0 = .error (11, 0))
theorem elem_ext {v : List UInt8 → R (List Nd)} (h : ValExt v) : EachExt (elem v) := by
  refine ⟨fun s => by simp [elem, h.1], fun s r p r1 s1 hr => ?_⟩
  unfold elem at hr
  cases hv : v r with
  | error x => rw [hv] at hr; cases hr
  | ok y =>
    obtain ⟨o, q⟩ := y
    rw [hv] at hr
    cases hr
    obtain ⟨c, e, n, h1, _⟩ := h.2 r p r1 hv
    exact ⟨c, e, n, fun x hx => by simp [elem, h1 x hx]⟩
theorem member_ext {v : List UInt8 → R (List Nd)} (h : ValExt v) : EachExt (member v) := by
  refine ⟨fun s => by simp [member, quoted, takeB, skip], fun s r p r1 s1 hr => ?_⟩
  unfold member at hr
  obtain ⟨b, eb, ab⟩ := skip_self r
  cases hq : quoted (skip r) with
  | error x => rw [hq] at hr; cases hr
  | ok y =>
    obtain ⟨key, q⟩ := y
    rw [hq] at hr
    simp only at hr
    by_cases hk : key ∈ s
    · rw [if_pos hk] at hr; cases hr
    · rw [if_neg hk] at hr
      obtain ⟨c1, e1, h1⟩ := quoted_ext hq
      cases ht : takeB 58 q with
      | error x => rw [ht] at hr; cases hr
      | ok t =>
        rw [ht] at hr
        simp only at hr
        obtain ⟨c2, e2, _, _, h2⟩ := takeB_ext ht
        cases hv : v t with
        | error x => rw [hv] at hr; cases hr
        | ok y =>
          obtain ⟨o, q3⟩ := y
          rw [hv] at hr
          cases hr
          obtain ⟨c3, e3, n3, h3, _⟩ := h.2 t o r1 hv
          have hc1 : ∀ z, skip (b ++ (c1 ++ 34 :: z)) = c1 ++ 34 :: z := by
            intro z
            rw [skip_app ab]
            cases c1 with
            | nil => exact skip_nb (by decide) _
            | cons a c1 =>
              have := skip_head (r := r) (b := a) (t := c1 ++ 34 :: q) (by rw [e1]; rfl)
              exact skip_nb this _
          refine ⟨b ++ (c1 ++ 34 :: (c2 ++ 58 :: c3)), by rw [eb, e1, e2, e3]; simp, by simp, fun x hx => ?_⟩
          have ee : b ++ (c1 ++ 34 :: (c2 ++ 58 :: c3)) ++ x = b ++ (c1 ++ 34 :: (c2 ++ 58 :: (c3 ++ x))) := by simp
          unfold member
          rw [ee, hc1, h1]
          simp only
          rw [if_neg hk, h2]
          simp only
          rw [h3 x hx]
theorem value_nil : ∀ d, value d [] = .error (11, 0)
  | 0 => rfl
  | _ + 1 => rfl
theorem value_skip : ∀ d r, value d (skip r) = value d r
  | 0, r => by simp only [value, skip_skip]
  | _ + 1, r => by simp only [value, skip_skip]
theorem value_ext : ∀ d, ValExt (value d)
  | 0 => ⟨value_nil 0, fun r o r1 h => by
    simp only [value] at h
    split at h <;> cases h⟩
  | d + 1 => by
    refine ⟨value_nil _, fun r o r1 h => ?_⟩
    have ih := value_ext d
    simp only [value] at h
    cases hs : skip r with
    | nil => rw [hs] at h; cases h
    | cons b t =>
      rw [hs] at h
      simp only at h
      obtain ⟨bl, eb, ab, nb⟩ := skip_cons hs
      -- what is walked behind the blanks
      have back : ∀ (c : List UInt8), c ≠ [] → b :: t = c ++ r1 → (∀ x, Follow x → value (d + 1) (c ++ x) = .ok (o, x)) → Ends c (fun c0 => value (d + 1) c0 = .error (11, 0)) →
          ∃ c, r = c ++ r1 ∧ c ≠ [] ∧ (∀ x, Follow x → value (d + 1) (c ++ x) = .ok (o, x)) ∧ Ends c (fun c0 => value (d + 1) c0 = .error (11, 0)) := by
        intro c hc e h1 h2
        refine ⟨bl ++ c, by rw [eb, e]; simp, by simp [hc], fun x hx => ?_, fun c0 l e0 hl => ?_⟩
        · rw [List.append_assoc, ← value_skip, skip_app ab, value_skip]
          exact h1 x hx
        · obtain ⟨c1, l1, rfl⟩ : ∃ c1 l1, c = c1 ++ [l1] := ⟨c.dropLast, c.getLast hc, (List.dropLast_concat_getLast hc).symm⟩
          rw [← List.append_assoc] at e0
          obtain ⟨e1, e2⟩ := List.append_inj' e0 rfl
          cases e2
          subst e1
          show value (d + 1) (bl ++ c1) = _
          rw [← value_skip, skip_app ab, value_skip]
          exact h2 c1 _ rfl hl
      have head : ∀ z, value (d + 1) (b :: z) = if small b then word (b :: z) else if digit b || b == 45 then number (b :: z) else if b = 34 then (match str z [] with | .error x => .error x | .ok (s, r1) => .ok ([⟨4, ⟨s.toArray⟩, 0, 0⟩], r1)) else if b = 91 then (match rows 93 (elem (value d)) () z with | .error x => .error x | .ok (o, r1, n) => .ok (o ++ [nd 5 0 n], r1)) else if b = 123 then (match rows 125 (member (value d)) [] z with | .error x => .error x | .ok (o, r1, n) => .ok (o ++ [nd 7 0 n], r1)) else .error (10, z.length + 1) := by
        intro z
        show value (d + 1) (b :: z) = _
        unfold value
        rw [skip_nb nb]
        try rfl
      by_cases h1 : small b = true
      · rw [if_pos h1] at h
        obtain ⟨c, e, hx, hE⟩ := word_ext h
        have hc : ∃ c', c = b :: c' := by
          cases c with
          | nil =>
            have := hx [] follow_nil
            simp [word] at this
          | cons a c => simp only [List.cons_append, List.cons.injEq] at e; exact ⟨c, by rw [e.1]⟩
        obtain ⟨c', rfl⟩ := hc
        refine back _ (by simp) e (fun x hf => ?_) (hE _)
        have := hx x hf
        rw [List.cons_append] at this ⊢
        rw [head, if_pos h1]; exact this
      · rw [if_neg h1] at h
        by_cases h2 : (digit b || b == 45) = true
        · rw [if_pos h2] at h
          obtain ⟨c, e, hx, hE⟩ := number_ext h
          have hc : ∃ c', c = b :: c' := by
            cases c with
            | nil =>
              have := hx [] follow_nil
              simp [number] at this
            | cons a c => simp only [List.cons_append, List.cons.injEq] at e; exact ⟨c, by rw [e.1]⟩
          obtain ⟨c', rfl⟩ := hc
          refine back _ (by simp) e (fun x hf => ?_) (ends_of (fun l => digit l || l == 45) hE (by decide))
          have := hx x hf
          rw [List.cons_append] at this ⊢
          rw [head, if_neg h1, if_pos h2]; exact this
        · rw [if_neg h2] at h
          by_cases h3 : b = 34
          · rw [if_pos h3] at h
            cases hq : str t [] with
            | error x => rw [hq] at h; cases h
            | ok y =>
              obtain ⟨s, q⟩ := y
              rw [hq] at h
              cases h
              obtain ⟨c, e, hx, hE⟩ := str_ext _ t [] s r1 (Nat.lt_succ_self _) hq
              refine back (b :: (c ++ [34])) (by simp) (by rw [e]; simp) (fun x _ => ?_) (fun c0 l e0 _ => ?_)
              · rw [List.cons_append, head, if_neg h1, if_neg h2, if_pos h3, List.append_assoc, List.singleton_append, hx]
              · rw [show b :: (c ++ [34]) = (b :: c) ++ [34] from rfl] at e0
                obtain ⟨rfl, _⟩ := List.append_inj' e0 rfl
                rw [head, if_neg h1, if_neg h2, if_pos h3, hE]
          · rw [if_neg h3] at h
            by_cases h4 : b = 91
            · rw [if_pos h4] at h
              cases hq : rows 93 (elem (value d)) () t with
              | error x => rw [hq] at h; cases h
              | ok y =>
                obtain ⟨p, q, n⟩ := y
                rw [hq] at h
                cases h
                obtain ⟨c, e, hx, hE⟩ := rows_ext (.inl rfl) (elem_ext ih) hq
                refine back (b :: (c ++ [93])) (by simp) (by rw [e]; simp) (fun x _ => ?_) (fun c0 l e0 _ => ?_)
                · rw [List.cons_append, head, if_neg h1, if_neg h2, if_neg h3, if_pos h4, List.append_assoc, List.singleton_append, hx]
                · rw [show b :: (c ++ [93]) = (b :: c) ++ [93] from rfl] at e0
                  obtain ⟨rfl, _⟩ := List.append_inj' e0 rfl
                  rw [head, if_neg h1, if_neg h2, if_neg h3, if_pos h4, hE]
            · rw [if_neg h4] at h
              by_cases h5 : b = 123
              · rw [if_pos h5] at h
                cases hq : rows 125 (member (value d)) [] t with
                | error x => rw [hq] at h; cases h
                | ok y =>
                  obtain ⟨p, q, n⟩ := y
                  rw [hq] at h
                  cases h
                  obtain ⟨c, e, hx, hE⟩ := rows_ext (.inr rfl) (member_ext ih) hq
                  refine back (b :: (c ++ [125])) (by simp) (by rw [e]; simp) (fun x _ => ?_) (fun c0 l e0 _ => ?_)
                  · rw [List.cons_append, head, if_neg h1, if_neg h2, if_neg h3, if_neg h4, if_pos h5, List.append_assoc, List.singleton_append, hx]
                  · rw [show b :: (c ++ [125]) = (b :: c) ++ [125] from rfl] at e0
                    obtain ⟨rfl, _⟩ := List.append_inj' e0 rfl
                    rw [head, if_neg h1, if_neg h2, if_neg h3, if_neg h4, if_pos h5, hE]
              · rw [if_neg h5] at h; cases h
end Go.Proofs.YtoefnmhmiphilaaGreatDoor.Tp

namespace Go.Proofs.YtoefnmhmiphilaaGreatDoor.Tp

def Small {σ : Type} (each : σ → List UInt8 → Except (Int × Nat) (List Nd × List UInt8 × σ)) : Prop := ∀ st r o r1 st1, each st r = .ok (o, r1, st1) → o.length + r1.length ≤ r.length
theorem skip_le (r : List UInt8) : (skip r).length ≤ r.length := by
  obtain ⟨c, e, _⟩ := skip_self r
  have := congrArg List.length e
  rw [List.length_append] at this
  omega
theorem row_len {σ : Type} {e : UInt8} {each : σ → List UInt8 → Except (Int × Nat) (List Nd × List UInt8 × σ)} (hE : Small each) : ∀ (k : Nat) (s : σ) (r : List UInt8) (o : List Nd) (n : Int) (o' : List Nd) (r1 : List UInt8) (n' : Int), row e each k s r o n = .ok (o', r1, n') → o'.length + r1.length + 1 ≤ o.length + r.length
  | 0, _, _, _, _, _, _, _, h => by simp [row] at h
  | k + 1, s, r, o, n, o', r1, n', h => by
    simp only [row] at h
    cases hx : each s r with
    | error x => rw [hx] at h; cases h
    | ok y =>
      obtain ⟨p, q, s1⟩ := y
      rw [hx] at h
      simp only at h
      have h1 := hE s r p q s1 hx
      have h2 := skip_le q
      cases hs : skip q with
      | nil => rw [hs] at h; cases h
      | cons c t =>
        rw [hs] at h h2
        simp only at h
        rw [List.length_cons] at h2
        by_cases h44 : c = 44
        · rw [if_pos h44] at h
          have h3 := skip_le t
          cases ht : skip t with
          | nil =>
            rw [ht] at h
            have := row_len hE k s1 [] _ _ _ _ _ h
            rw [List.length_append] at this
            simp only [List.length_nil] at this
            omega
          | cons d u =>
            rw [ht] at h h3
            simp only at h
            by_cases hd : d = e
            · rw [if_pos hd] at h; cases h
            · rw [if_neg hd] at h
              have := row_len hE k s1 (d :: u) _ _ _ _ _ h
              rw [List.length_append] at this
              omega
        · rw [if_neg h44] at h
          by_cases hce : c = e
          · rw [if_pos hce] at h
            cases h
            rw [List.length_append]
            omega
          · rw [if_neg hce] at h; cases h
theorem rows_len {σ : Type} {e : UInt8} {each : σ → List UInt8 → Except (Int × Nat) (List Nd × List UInt8 × σ)} (hE : Small each) {s : σ} {r : List UInt8} {o : List Nd} {r1 : List UInt8} {n : Int} (h : rows e each s r = .ok (o, r1, n)) : o.length + r1.length + 1 ≤ r.length := by
  unfold rows at h
  have h1 := skip_le r
  cases hs : skip r with
  | nil => rw [hs] at h; have := row_len hE _ _ _ _ _ _ _ _ h; simp at this
  | cons d u =>
    rw [hs] at h h1
    simp only at h
    by_cases hd : d = e
    · rw [if_pos hd] at h
      cases h
      simp at h1 ⊢; omega
    · rw [if_neg hd] at h
      have := row_len hE _ _ _ _ _ _ _ _ h
      simp at this h1; omega
theorem elem_len {v : List UInt8 → R (List Nd)} (h : ∀ r o r1, v r = .ok (o, r1) → o.length + r1.length ≤ r.length) : Small (elem v) := by
  intro st r o r1 st1 hr
  unfold elem at hr
  cases hv : v r with
  | error x => rw [hv] at hr; cases hr
  | ok y => obtain ⟨o2, q⟩ := y; rw [hv] at hr; cases hr; exact h _ _ _ hv
theorem member_len {v : List UInt8 → R (List Nd)} (h : ∀ r o r1, v r = .ok (o, r1) → o.length + r1.length ≤ r.length) : Small (member v) := by
  intro st r o r1 st1 hr
  unfold member at hr
  have h0 := skip_le r
  cases hq : quoted (skip r) with
  | error x => rw [hq] at hr; cases hr
  | ok y =>
    obtain ⟨key, q⟩ := y
    rw [hq] at hr
    simp only at hr
    obtain ⟨c1, e1, _⟩ := quoted_ext hq
    have l1 := congrArg List.length e1
    rw [List.length_append, List.length_cons] at l1
    by_cases hk : key ∈ st
    · rw [if_pos hk] at hr; cases hr
    · rw [if_neg hk] at hr
      cases ht : takeB 58 q with
      | error x => rw [ht] at hr; cases hr
      | ok t =>
        rw [ht] at hr
        simp only at hr
        obtain ⟨c2, e2, _⟩ := takeB_ext ht
        have l2 := congrArg List.length e2
        rw [List.length_append, List.length_cons] at l2
        cases hv : v t with
        | error x => rw [hv] at hr; cases hr
        | ok y =>
          obtain ⟨o2, q3⟩ := y
          rw [hv] at hr
          cases hr
          have := h _ _ _ hv
          rw [List.length_append]
          simp only [List.length_cons, List.length_nil]
          omega
theorem value_len : ∀ d r o r1, value d r = .ok (o, r1) → o.length + r1.length ≤ r.length
  | 0, r, o, r1, h => by
    simp only [value] at h
    split at h <;> cases h
  | d + 1, r, o, r1, h => by
    have ih := value_len d
    have h0 := skip_le r
    simp only [value] at h
    cases hs : skip r with
    | nil => rw [hs] at h; cases h
    | cons b t =>
      rw [hs] at h h0
      simp only at h
      rw [List.length_cons] at h0
      by_cases h1 : small b = true
      · rw [if_pos h1] at h
        have hl : (b :: t).dropWhile small = t.dropWhile small := List.dropWhile_cons_of_pos h1
        have hd : (t.dropWhile small).length ≤ t.length := (List.dropWhile_sublist _).length_le
        unfold word at h
        simp only [hl] at h
        (repeat' split at h) <;> cases h <;> simp <;> omega
      · rw [if_neg h1] at h
        by_cases h2 : (digit b || b == 45) = true
        · rw [if_pos h2] at h
          have hd : (t.dropWhile digit).length ≤ t.length := (List.dropWhile_sublist _).length_le
          simp only [number] at h
          split at h <;> cases h
          simp; omega
        · rw [if_neg h2] at h
          by_cases h3 : b = 34
          · rw [if_pos h3] at h
            cases hq : str t [] with
            | error x => rw [hq] at h; cases h
            | ok y =>
              obtain ⟨s, q⟩ := y
              rw [hq] at h
              cases h
              obtain ⟨c, e, _⟩ := str_ext _ t [] s r1 (Nat.lt_succ_self _) hq
              have := congrArg List.length e
              rw [List.length_append, List.length_cons] at this
              simp; omega
          · rw [if_neg h3] at h
            by_cases h4 : b = 91
            · rw [if_pos h4] at h
              cases hq : rows 93 (elem (value d)) () t with
              | error x => rw [hq] at h; cases h
              | ok y =>
                obtain ⟨p, q, n⟩ := y
                rw [hq] at h
                cases h
                have := rows_len (elem_len ih) hq
                rw [List.length_append]; simp; omega
            · rw [if_neg h4] at h
              by_cases h5 : b = 123
              · rw [if_pos h5] at h
                cases hq : rows 125 (member (value d)) [] t with
                | error x => rw [hq] at h; cases h
                | ok y =>
                  obtain ⟨p, q, n⟩ := y
                  rw [hq] at h
                  cases h
                  have := rows_len (member_len ih) hq
                  rw [List.length_append]; simp; omega
              · rw [if_neg h5] at h; cases h

def Deep {α : Type} (x y : Except (Int × Nat) α) : Prop := ∀ z, x = .ok z → y = .ok z ∨ ∃ p, y = .error (12, p)
theorem row_deep {σ : Type} {e : UInt8} {f g : σ → List UInt8 → Except (Int × Nat) (List Nd × List UInt8 × σ)} (h : ∀ s r, Deep (f s r) (g s r)) : ∀ (k : Nat) (s : σ) (r : List UInt8) (o : List Nd) (n : Int), Deep (row e f k s r o n) (row e g k s r o n)
  | 0, _, _, _, _ => fun z hz => by simp [row] at hz
  | k + 1, s, r, o, n => fun z hz => by
    simp only [row] at hz ⊢
    cases hx : f s r with
    | error x => rw [hx] at hz; cases hz
    | ok y =>
      rw [hx] at hz
      rcases h s r y hx with h1 | ⟨p, h1⟩
      · rw [h1]
        obtain ⟨p, q, s1⟩ := y
        simp only at hz ⊢
        cases hs : skip q with
        | nil => rw [hs] at hz; cases hz
        | cons c t =>
          rw [hs] at hz
          simp only at hz ⊢
          by_cases h44 : c = 44
          · rw [if_pos h44] at hz ⊢
            cases ht : skip t with
            | nil => rw [ht] at hz; exact row_deep h k _ _ _ _ z hz
            | cons d u =>
              rw [ht] at hz
              simp only at hz ⊢
              by_cases hd : d = e
              · rw [if_pos hd] at hz; cases hz
              · rw [if_neg hd] at hz ⊢
                exact row_deep h k _ _ _ _ z hz
          · rw [if_neg h44] at hz ⊢
            exact .inl hz
      · rw [h1]; exact .inr ⟨p, rfl⟩
theorem rows_deep {σ : Type} {e : UInt8} {f g : σ → List UInt8 → Except (Int × Nat) (List Nd × List UInt8 × σ)} (h : ∀ s r, Deep (f s r) (g s r)) (s : σ) (r : List UInt8) : Deep (rows e f s r) (rows e g s r) := by
  intro z hz
  unfold rows at hz ⊢
  cases hs : skip r with
  | nil => rw [hs] at hz; exact row_deep h _ _ _ _ _ z hz
  | cons d u =>
    rw [hs] at hz
    simp only at hz ⊢
    by_cases hd : d = e
    · rw [if_pos hd] at hz ⊢; exact .inl hz
    · rw [if_neg hd] at hz ⊢; exact row_deep h _ _ _ _ _ z hz
theorem elem_deep {v w : List UInt8 → R (List Nd)} (h : ∀ r, Deep (v r) (w r)) (s : Unit) (r : List UInt8) : Deep (elem v s r) (elem w s r) := by
  intro z hz
  unfold elem at hz ⊢
  cases hv : v r with
  | error x => rw [hv] at hz; cases hz
  | ok y =>
    rw [hv] at hz
    rcases h r y hv with h1 | ⟨p, h1⟩
    · rw [h1]; exact .inl hz
    · rw [h1]; exact .inr ⟨p, rfl⟩
theorem member_deep {v w : List UInt8 → R (List Nd)} (h : ∀ r, Deep (v r) (w r)) (s : List (List UInt8)) (r : List UInt8) : Deep (member v s r) (member w s r) := by
  intro z hz
  unfold member at hz ⊢
  cases hq : quoted (skip r) with
  | error x => rw [hq] at hz; cases hz
  | ok y =>
    obtain ⟨key, q⟩ := y
    rw [hq] at hz
    simp only at hz ⊢
    by_cases hk : key ∈ s
    · rw [if_pos hk] at hz; cases hz
    · rw [if_neg hk] at hz ⊢
      cases ht : takeB 58 q with
      | error x => rw [ht] at hz; cases hz
      | ok t =>
        rw [ht] at hz
        simp only at hz ⊢
        cases hv : v t with
        | error x => rw [hv] at hz; cases hz
        | ok y =>
          rw [hv] at hz
          rcases h t y hv with h1 | ⟨p, h1⟩
          · rw [h1]; exact .inl hz
          · rw [h1]; exact .inr ⟨p, rfl⟩
theorem value_deep : ∀ d r, Deep (value (d + 1) r) (value d r)
  | d, r => fun z hz => by
    cases d with
    | zero =>
      simp only [value] at hz ⊢
      cases hs : skip r with
      | nil => rw [hs] at hz; cases hz
      | cons b t => exact .inr ⟨_, rfl⟩
    | succ d =>
      have ih := value_deep d
      rw [show value (d + 1 + 1) r = _ from rfl] at hz
      unfold value at hz ⊢
      cases hs : skip r with
      | nil => rw [hs] at hz; cases hz
      | cons b t =>
        rw [hs] at hz
        simp only at hz ⊢
        by_cases h1 : small b = true
        · rw [if_pos h1] at hz ⊢; exact .inl hz
        · rw [if_neg h1] at hz ⊢
          by_cases h2 : (digit b || b == 45) = true
          · rw [if_pos h2] at hz ⊢; exact .inl hz
          · rw [if_neg h2] at hz ⊢
            by_cases h3 : b = 34
            · rw [if_pos h3] at hz ⊢; exact .inl hz
            · rw [if_neg h3] at hz ⊢
              by_cases h4 : b = 91
              · rw [if_pos h4] at hz ⊢
                cases hq : rows 93 (elem (value (d + 1))) () t with
                | error x => rw [hq] at hz; cases hz
                | ok y =>
                  rw [hq] at hz
                  rcases rows_deep (elem_deep ih) () t y hq with h5 | ⟨p, h5⟩
                  · rw [h5]; exact .inl hz
                  · rw [h5]; exact .inr ⟨p, rfl⟩
              · rw [if_neg h4] at hz ⊢
                by_cases h5 : b = 123
                · rw [if_pos h5] at hz ⊢
                  cases hq : rows 125 (member (value (d + 1))) [] t with
                  | error x => rw [hq] at hz; cases hz
                  | ok y =>
                    rw [hq] at hz
                    rcases rows_deep (member_deep ih) [] t y hq with h6 | ⟨p, h6⟩
                    · rw [h6]; exact .inl hz
                    · rw [h6]; exact .inr ⟨p, rfl⟩
                · rw [if_neg h5] at hz ⊢; exact .inl hz
end Go.Proofs.YtoefnmhmiphilaaGreatDoor.Tp
