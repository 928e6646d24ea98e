/- The names of layer 3, over lists of bytes: Path, Same, Big and Own. -/
import Derived.Test.YtkcfigfhbeohfaaNmB
namespace Go.Proofs.Ytkcfigfhbeohfaa.Nm
open Go Go.RowKit Go.Proofs.YtkcfigfhbeohfaaW.PrintWords Go.Proofs.Ytkcfigfhbeohfaa.Txt Go.Proofs.Ytkcfigfhbeohfaa.G

def dl (s : ByteArray) : List UInt8 := s.data.toList
def fr : List UInt8 := [110, 111, 100, 101, 95, 109, 111, 100, 117, 108, 101, 115, 47]
/-- The path of names. -/
def pathB (l : List (List UInt8)) : List UInt8 := Lib.join (l.map (fr ++ ·)) [47]
def allGood (l : List ByteArray) : Bool := l.all fun s => goodL (dl s)
def pathR (l : List ByteArray) : ByteArray × Int :=
  if 12 < l.length then (mk [], 30) else if allGood l = true then (mk (pathB (l.map dl)), 0) else (mk [], 30)

/-- `r` is what is left of the row `l` from the place `i` on. -/
structure Lt {α : Type} (l : List α) (i : Int) (r : List α) : Prop where
  ge : 0 ≤ i
  le : i ≤ l.length
  eq : l.drop i.toNat = r
section
variable {α : Type} {l r : List α} {i : Int} {x : α}
theorem Lt.zero (l : List α) : Lt l 0 l := ⟨by omega, by omega, rfl⟩
theorem Lt.length (h : Lt l i r) : (r.length : Int) = l.length - i := by
  have h1 := h.ge
  have h2 := h.le
  rw [← h.eq, List.length_drop]
  omega
theorem Lt.not_lt (h : Lt l i []) : ¬ i < l.length := by have := h.length; simp at this; omega
theorem Lt.lt (h : Lt l i (x :: r)) : i < l.length := by have := h.length; simp at this; omega
theorem Lt.get (h : Lt l i (x :: r)) : l[i.toNat]? = some x := by
  have := congrArg (·[0]?) h.eq
  simpa using this
theorem Lt.rd (h : Lt l i (x :: r)) (d : α) : rdOf d l i = x := by
  unfold rdOf
  rw [List.getD_eq_getElem?_getD, h.get]; rfl
theorem Lt.next (h : Lt l i (x :: r)) : Lt l (i + 1) r := by
  have h1 := h.lt
  have h0 := h.ge
  refine ⟨by omega, by omega, ?_⟩
  rw [show (i + 1).toNat = i.toNat + 1 by omega, ← List.drop_drop, h.eq]
  rfl
theorem Lt.wrap (h : Lt l i (x :: r)) (hs : l.length ≤ 4611686018427387904) : wrap64 (i + 1) = i + 1 := by
  have h1 := h.lt
  have h0 := h.ge
  unfold wrap64
  omega
end

theorem good_len {l : List UInt8} (h : goodL l = true) : l.length ≤ 40 := by
  unfold goodL at h
  split at h
  · cases h
  · omega

theorem join_len (sep : List UInt8) (n : Nat) : ∀ xs : List (List UInt8), (∀ x ∈ xs, x.length ≤ n) → (Lib.joinTail sep xs).length ≤ xs.length * (sep.length + n)
  | [], _ => by simp [Lib.joinTail]
  | x :: xs, h => by
    have ih := join_len sep n xs (fun y hy => h y (List.mem_cons_of_mem _ hy))
    have hx := h x List.mem_cons_self
    have : Lib.joinTail sep (x :: xs) = sep ++ x ++ Lib.joinTail sep xs := by simp [Lib.joinTail]
    rw [this, List.length_append, List.length_append, List.length_cons, Nat.succ_mul]
    omega
theorem join_le (sep : List UInt8) (n : Nat) (xs : List (List UInt8)) (h : ∀ x ∈ xs, x.length ≤ n) : (Lib.join xs sep).length ≤ xs.length * (sep.length + n) := by
  cases xs with
  | nil => simp [Lib.join]
  | cons x xs =>
    rw [Lib.join_cons, List.length_append, List.length_cons, Nat.succ_mul]
    have := join_len sep n xs (fun y hy => h y (List.mem_cons_of_mem _ hy))
    have := h x List.mem_cons_self
    omega

theorem path_loop : ∀ (r : List ByteArray) (k : Nat) (acc l : List ByteArray) (i : Int), Lt l i r → l.length ≤ 12 → acc.length + r.length ≤ 12 → (∀ x ∈ acc, x.size ≤ 53) → r.length + 60 ≤ k →
    names_Path.l0 k acc l l.length i = some (if allGood r = true then (mk (Lib.join (acc.map dl ++ (r.map dl).map (fr ++ ·)) [47]), 0) else (mk [], 30))
  | [], k, acc, l, i, h, hl, ha, hx, hk => by
    obtain ⟨k, rfl⟩ : ∃ m, k = m + 1 := ⟨k - 1, by omega⟩
    simp only [names_Path.l0]
    rw [if_neg h.not_lt]
    have hj : (Lib.join (acc.map dl) [47]).length ≤ 140737488355328 := by
      have := join_le [47] 53 (acc.map dl) (fun y hy => by obtain ⟨z, hz, rfl⟩ := List.mem_map.1 hy; have := hx z hz; unfold dl; rw [len]; exact this)
      rw [List.length_map] at this
      have : acc.length * ([47].length + 53) ≤ 12 * 54 := Nat.mul_le_mul (by simp at ha; omega) (by simp)
      omega
    unfold strings_Join.f
    simp only [List.length_nil, Nat.add_zero] at ha
    rw [if_pos (by omega)]
    have hj' : (Lib.join (acc.map (·.data.toList)) (⟨#[47]⟩ : ByteArray).data.toList).length ≤ 140737488355328 := hj
    rw [if_pos hj']
    simp [allGood, mk, dl]
    rfl
  | x :: r, k, acc, l, i, h, hl, ha, hx, hk => by
    obtain ⟨k, rfl⟩ : ∃ m, k = m + 1 := ⟨k - 1, by omega⟩
    simp only [names_Path.l0]
    rw [if_pos h.lt, if_pos h.ge, if_pos h.lt, h.rd, h.wrap (by omega), good_eq k x (by simp at hk; omega)]
    simp only [Option.bind_some]
    cases hg : goodL x.data.toList
    · rw [if_neg (by simp)]
      simp [allGood, dl, hg, mk]
    · have hz := good_len hg
      rw [len] at hz
      rw [if_pos rfl, if_pos (by omega), if_pos (by omega)]
      have hm : ((⟨#[110, 111, 100, 101, 95, 109, 111, 100, 117, 108, 101, 115, 47]⟩ : ByteArray) ++ x) = mk (fr ++ dl x) := ext (by simp [fr, dl])
      rw [hm, path_loop r k _ l (i + 1) h.next hl (by simp at ha ⊢; omega) (fun y hy => by
        rcases List.mem_append.1 hy with h' | h'
        · exact hx y h'
        · rw [List.mem_singleton.1 h', mk_size]; simp [fr, dl]; omega) (by simp at hk; omega)]
      simp [allGood, dl, hg]

theorem path_eq (k : Nat) (l : List ByteArray) (hk : 72 ≤ k) : names_Path.f k l = some (pathR l) := by
  unfold names_Path.f pathR
  by_cases h : 12 < l.length
  · rw [if_pos (by omega), if_pos h]; rfl
  · rw [if_neg (by omega), if_neg h, path_loop l k [] l 0 (Lt.zero l) (by omega) (by simp; omega) (fun x hx => by cases hx) (by omega)]
    simp [pathB]

theorem rpath_loop : ∀ (r : List ByteArray) (k : Nat) (acc : List UInt8) (l : List ByteArray) (i : Int), Lt l i r → l.length ≤ 12 → acc.length ≤ 100 * i → r.length + 60 ≤ k →
    hoggetref03_Path.l0 k l (mk acc) i = some (if allGood r = true then (mk (if i = 0 then pathB (r.map dl) else acc ++ Lib.joinTail [47] ((r.map dl).map (fr ++ ·))), 0) else (mk [], 30))
  | [], k, acc, l, i, h, hl, ha, hk => by
    obtain ⟨k, rfl⟩ : ∃ m, k = m + 1 := ⟨k - 1, by omega⟩
    simp only [hoggetref03_Path.l0]
    rw [if_neg h.not_lt]
    by_cases h0 : i = 0
    · have : acc = [] := by subst h0; simpa using ha
      simp [allGood, h0, this, pathB, Lib.join]
    · simp [allGood, h0, Lib.joinTail]
  | x :: r, k, acc, l, i, h, hl, ha, hk => by
    obtain ⟨k, rfl⟩ : ∃ m, k = m + 1 := ⟨k - 1, by omega⟩
    simp only [hoggetref03_Path.l0]
    have h0 := h.ge
    have hlt := h.lt
    rw [if_pos h.lt, if_pos h.ge, h.rd, h.wrap (by omega), rgood_eq k x (by simp at hk; omega)]
    simp only [Option.bind_some]
    cases hg : goodL x.data.toList
    · rw [if_neg (by simp)]
      simp [allGood, dl, hg, mk]
    · have hz := good_len hg
      have hzx := len x
      have e0 : (⟨#[47]⟩ : ByteArray) = mk [47] := rfl
      have e1 : (⟨#[110, 111, 100, 101, 95, 109, 111, 100, 117, 108, 101, 115, 47]⟩ : ByteArray) = mk fr := rfl
      have ex : x = mk (dl x) := eq_mk x
      have hzd : (dl x).length ≤ 40 := hz
      rw [if_pos rfl, e0, e1]
      have hfr : fr.length = 13 := rfl
      have hkr : r.length + 60 ≤ k := by simp at hk; omega
      by_cases hi : i = 0
      · subst hi
        have : acc = [] := by simpa using ha
        subst this
        rw [if_neg (by omega), if_pos (by simp), mk_append, if_pos (by rw [mk_size]; simp; omega), ex, mk_append, rpath_loop r k _ l (0 + 1) h.next hl (by simp; omega) hkr]
        simp [allGood, dl, hg, pathB, Lib.join_cons]
      · rw [if_pos (by omega), if_pos (by rw [mk_size]; omega), mk_append, if_pos (by rw [mk_size]; simp; omega), mk_append, if_pos (by rw [mk_size]; simp; omega), ex, mk_append,
          rpath_loop r k _ l (i + 1) h.next hl (by simp; omega) hkr]
        have hi1 : ¬ (i + 1 = 0) := by omega
        simp [allGood, dl, hg, hi, hi1, Lib.joinTail]

theorem rpath_eq (k : Nat) (l : List ByteArray) (hk : 72 ≤ k) : hoggetref03_Path.f k l = some (pathR l) := by
  unfold hoggetref03_Path.f pathR
  by_cases h : 12 < l.length
  · rw [if_pos (by omega), if_pos h]; rfl
  · have e : (⟨#[]⟩ : ByteArray) = mk [] := rfl
    rw [if_neg (by omega), if_neg h, e, rpath_loop l k [] l 0 (Lt.zero l) (by omega) (by simp) (by omega)]
    simp

theorem same_loop : ∀ (r t : List ByteArray) (k : Nat) (a b : List ByteArray) (i : Int), Lt a i r → Lt b i t → a.length = b.length → a.length ≤ 4611686018427387904 → r.length < k →
    hoggetref03_Same.l0 k a b i = some (decide (r = t))
  | [], t, k, a, b, i, h, h', hl, hs, hk => by
    obtain ⟨k, rfl⟩ : ∃ m, k = m + 1 := ⟨k - 1, by simp at hk; omega⟩
    simp only [hoggetref03_Same.l0]
    rw [if_neg h.not_lt]
    have : t = [] := List.length_eq_zero_iff.1 (by have h1 := h.length; have h2 := h'.length; rw [List.length_nil] at h1; omega)
    simp [this]
  | x :: r, t, k, a, b, i, h, h', hl, hs, hk => by
    obtain ⟨k, rfl⟩ : ∃ m, k = m + 1 := ⟨k - 1, by simp at hk; omega⟩
    cases t with
    | nil => exfalso; have h1 := h.length; have h2 := h'.length; rw [List.length_nil] at h2; rw [List.length_cons] at h1; omega
    | cons y t =>
      simp only [hoggetref03_Same.l0]
      rw [if_pos h.lt, if_pos h.ge, if_pos h'.lt, h.rd, h'.rd, h.wrap hs, toList_eq, toList_eq]
      by_cases e : x.data.toList = y.data.toList
      · rw [if_pos e, same_loop r t k a b (i + 1) h.next h'.next hl hs (by simp at hk; omega), ext e]; simp
      · rw [if_neg e]
        have : x ≠ y := fun e' => e (by rw [e'])
        simp [this]

theorem same_eq (k : Nat) (a b : List ByteArray) (hs : a.length ≤ 4611686018427387904) (hk : a.length < k) : hoggetref03_Same.f k a b = some (decide (a = b)) := by
  unfold hoggetref03_Same.f
  by_cases h : a.length = b.length
  · rw [if_pos (by omega), same_loop a b k a b 0 (Lt.zero a) (Lt.zero b) h hs hk]
  · rw [if_neg (by omega)]
    have : a ≠ b := fun e => h (by rw [e])
    simp [this]

theorem big_loop (n : Int) : ∀ (r : List ByteArray) (k : Nat) (l : List ByteArray) (i : Int), Lt l i r → l.length ≤ 4611686018427387904 → r.length < k →
    hoggetref03_Big.l0 k l n i = some (r.any fun x => decide ((x.size : Int) > n))
  | [], k, l, i, h, hs, hk => by
    obtain ⟨k, rfl⟩ : ∃ m, k = m + 1 := ⟨k - 1, by simp at hk; omega⟩
    simp only [hoggetref03_Big.l0]
    rw [if_neg h.not_lt]; rfl
  | x :: r, k, l, i, h, hs, hk => by
    obtain ⟨k, rfl⟩ : ∃ m, k = m + 1 := ⟨k - 1, by simp at hk; omega⟩
    simp only [hoggetref03_Big.l0]
    rw [if_pos h.lt, if_pos h.ge, h.rd, h.wrap hs]
    by_cases e : (x.size : Int) > n
    · rw [if_pos e]; simp [e]
    · rw [if_neg e, big_loop n r k l (i + 1) h.next hs (by simp at hk; omega)]; simp [e]

/-- Big answers yes, or no: then the row and its texts are small. -/
theorem big_eq (k : Nat) (l : List ByteArray) (m n : Nat) (hm : m ≤ 1000) (hk : m < k) : hoggetref03_Big.f k l m n = some true ∨ (hoggetref03_Big.f k l m n = some false ∧ l.length ≤ m ∧ ∀ x ∈ l, x.size ≤ n) := by
  unfold hoggetref03_Big.f
  by_cases h : m < l.length
  · exact .inl (by rw [if_pos (by omega)])
  · rw [if_neg (by omega), big_loop n l k l 0 (Lt.zero l) (by omega) (by omega)]
    by_cases e : (l.any fun x => decide ((x.size : Int) > n)) = true
    · exact .inl (by rw [e])
    · have e' := Bool.eq_false_iff.2 e
      refine .inr ⟨by rw [e'], by omega, fun x hx => ?_⟩
      rw [List.any_eq_false] at e'
      have := e' x hx
      simp at this
      omega

end Go.Proofs.Ytkcfigfhbeohfaa.Nm
