/- What text.Parse, text.Number and text.Quote tell, as functions over lists of bytes. -/
namespace Go.Proofs.YtkcfigfhbeohfaaGreatDoor.Tp

structure Nd where
  f0 : Int
  f1 : ByteArray
  f2 : Int
  f3 : Int
/-- What was wrong, and how many bytes were left there; or what was told, and what is left. -/
abbrev R (α : Type) := Except (Int × Nat) (α × List UInt8)
def blank (c : UInt8) : Bool := c == 32 || c == 10 || c == 9
def skip (r : List UInt8) : List UInt8 := r.dropWhile blank
def odd (r : List UInt8) : Int × Nat := if r = [] then (11, 0) else (10, r.length)
def takeB (b : UInt8) (r : List UInt8) : Except (Int × Nat) (List UInt8) :=
  match skip r with
  | [] => .error (11, 0)
  | c :: t => if c = b then .ok t else .error (10, t.length + 1)
def small (c : UInt8) : Bool := decide (97 ≤ c.toNat) && decide (c.toNat ≤ 122)
def digit (c : UInt8) : Bool := decide (48 ≤ c.toNat) && decide (c.toNat ≤ 57)
def nd (k n kids : Int) : Nd := ⟨k, ⟨#[]⟩, n, kids⟩
def word (r : List UInt8) : R (List Nd) :=
  let w := r.takeWhile small
  if w = [110, 117, 108, 108] then .ok ([nd 1 0 0], r.dropWhile small)
  else if w = [116, 114, 117, 101] then .ok ([nd 2 1 0], r.dropWhile small)
  else if w = [102, 97, 108, 115, 101] then .ok ([nd 2 0 0], r.dropWhile small)
  else .error (10, r.length)
def val : List UInt8 → Int → Int
  | [], n => n
  | c :: t, n => val t (10 * n + ((c.toNat : Int) - 48))
/-- Number. -/
def num (s : List UInt8) : Option Int :=
  let d := if s.head? = some 45 then s.tail else s
  if d = [] ∨ 6 < d.length ∨ d.all digit = false ∨ d.head? = some 48 ∧ s ≠ [48] then none
  else some (if s.head? = some 45 then - val d 0 else val d 0)
def number : List UInt8 → R (List Nd)
  | [] => .error (10, 0)
  | c :: t => match num (c :: t.takeWhile digit) with
    | some n => .ok ([nd 3 n 0], t.dropWhile digit)
    | none => .error (10, t.length + 1)
/-- The bytes of a string, behind its first sign. -/
def str : List UInt8 → List UInt8 → R (List UInt8)
  | [], _ => .error (11, 0)
  | x :: t, acc =>
    if x = 34 then .ok (acc, t)
    else if x = 92 then
      match t with
      | [] => .error (11, 0)
      | y :: u => if y = 34 ∨ y = 92 then str u (acc ++ [y]) else if y = 110 then str u (acc ++ [10]) else .error (10, u.length + 2)
    else if x.toNat < 32 ∨ 126 < x.toNat then .error (10, t.length + 1)
    else str t (acc ++ [x])
def quoted (r : List UInt8) : R (List UInt8) :=
  match takeB 34 r with
  | .error e => .error e
  | .ok t => str t []
/-- What stands between commas: a state is handed on. -/
def row {σ : Type} (e : UInt8) (each : σ → List UInt8 → Except (Int × Nat) (List Nd × List UInt8 × σ)) : Nat → σ → List UInt8 → List Nd → Int → Except (Int × Nat) (List Nd × List UInt8 × Int)
  | 0, _, _, _, _ => .error (11, 0)
  | k + 1, s, r, o, n =>
    match each s r with
    | .error x => .error x
    | .ok (p, r1, s1) =>
      match skip r1 with
      | [] => .error (11, 0)
      | c :: t =>
        if c = 44 then
          match skip t with
          | [] => row e each k s1 [] (o ++ p) (n + 1)
          | d :: u => if d = e then .error (10, u.length + 1) else row e each k s1 (d :: u) (o ++ p) (n + 1)
        else if c = e then .ok (o ++ p, t, n)
        else .error (10, t.length + 1)
def rows {σ : Type} (e : UInt8) (each : σ → List UInt8 → Except (Int × Nat) (List Nd × List UInt8 × σ)) (s : σ) (r : List UInt8) : Except (Int × Nat) (List Nd × List UInt8 × Int) :=
  match skip r with
  | [] => row e each 1 s [] [] 1
  | c :: t => if c = e then .ok ([], t, 0) else row e each (r.length + 1) s (c :: t) [] 1
/-- An element of a list. -/
def elem (v : List UInt8 → R (List Nd)) (_ : Unit) (r : List UInt8) : Except (Int × Nat) (List Nd × List UInt8 × Unit) :=
  match v r with
  | .error x => .error x
  | .ok (p, r1) => .ok (p, r1, ())
/-- A member of an object: the keys ahead of it are handed on. -/
def member (v : List UInt8 → R (List Nd)) (ks : List (List UInt8)) (r : List UInt8) : Except (Int × Nat) (List Nd × List UInt8 × List (List UInt8)) :=
  match quoted (skip r) with
  | .error x => .error x
  | .ok (key, r1) =>
    if key ∈ ks then .error (13, (skip r).length)
    else match takeB 58 r1 with
      | .error x => .error x
      | .ok r2 => match v r2 with
        | .error x => .error x
        | .ok (p, r3) => .ok (p ++ [⟨6, ⟨key.toArray⟩, 0, 1⟩], r3, ks ++ [key])
/-- A value, so many values deep at most. -/
def value : Nat → List UInt8 → R (List Nd)
  | 0, r => match skip r with
    | [] => .error (11, 0)
    | _ :: t => .error (12, t.length + 1)
  | d + 1, r => match skip r with
    | [] => .error (11, 0)
    | b :: t =>
      if small b then word (b :: t)
      else if digit b || b == 45 then number (b :: t)
      else if b = 34 then (match str t [] with
        | .error x => .error x
        | .ok (s, r1) => .ok ([⟨4, ⟨s.toArray⟩, 0, 0⟩], r1))
      else if b = 91 then (match rows 93 (elem (value d)) () t with
        | .error x => .error x
        | .ok (o, r1, n) => .ok (o ++ [nd 5 0 n], r1))
      else if b = 123 then (match rows 125 (member (value d)) [] t with
        | .error x => .error x
        | .ok (o, r1, n) => .ok (o ++ [nd 7 0 n], r1))
      else .error (10, t.length + 1)
/-- Parse: the value's nodes, or an error and its place. -/
def parse (s : List UInt8) : Except (Int × Nat) (List Nd) :=
  if 20000 < s.length then .error (2, 0)
  else match value 20 s with
    | .error (c, p) => .error (c, s.length - p)
    | .ok (o, r) => match skip r with
      | [] => if o.length ≤ 2000 then .ok o else .error (2, 0)
      | _ :: t => .error (10, s.length - (t.length + 1))
def esc (c : UInt8) : Option (List UInt8) :=
  if c = 34 ∨ c = 92 then some [92, c] else if c = 10 then some [92, 110] else if c.toNat < 32 ∨ 126 < c.toNat then none else some [c]
def escs : List UInt8 → Option (List UInt8)
  | [] => some []
  | c :: t => match esc c, escs t with
    | some x, some y => some (x ++ y)
    | _, _ => none
def quote (s : List UInt8) : Option (List UInt8) := (escs s).map fun x => [34] ++ x ++ [34]
end Go.Proofs.YtkcfigfhbeohfaaGreatDoor.Tp
