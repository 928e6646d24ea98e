/- The names of layer 3, over lists of bytes: what the program's and the reference's plain and Good come to. -/
import Derived.Test.YtkcfigfhbeohfaaTxt
import Derived.Test.YtkcfigfhbeohfaaG
namespace Go.Proofs.Ytkcfigfhbeohfaa.Nm
open Go Go.RowKit Go.Proofs.YtkcfigfhbeohfaaW.PrintWords Go.Proofs.Ytkcfigfhbeohfaa.Txt Go.Proofs.Ytkcfigfhbeohfaa.G

def word (c : UInt8) : Bool := (decide ((c.toNat : Int) ≥ 97) && decide ((c.toNat : Int) ≤ 122)) || (decide ((c.toNat : Int) ≥ 48) && decide ((c.toNat : Int) ≤ 57))
def okc (c : UInt8) : Bool := word c || decide ((c.toNat : Int) = 45 ∨ (c.toNat : Int) = 95 ∨ (c.toNat : Int) = 46)
def plainL : List UInt8 → Bool
  | [] => false
  | c :: r => word c && r.all okc

theorem dash (c : UInt8) : Lib.indexByte [45, 95, 46] c < 0 ↔ ¬ ((c.toNat : Int) = 45 ∨ (c.toNat : Int) = 95 ∨ (c.toNat : Int) = 46) := by
  have h1 := @u8_eq 45 c
  have h2 := @u8_eq 95 c
  have h3 := @u8_eq 46 c
  unfold Lib.indexByte
  by_cases a : (45 : UInt8) = c
  · subst a; simp
  · by_cases b : (95 : UInt8) = c
    · subst b; simp [Lib.indexByte]
    · by_cases d : (46 : UInt8) = c
      · subst d; simp [Lib.indexByte]
      · simp [Lib.indexByte, a, b, d]
        refine ⟨fun h => ?_, fun h => ?_, fun h => ?_⟩
        · exact a (h1.2 (by simp; omega))
        · exact b (h2.2 (by simp; omega))
        · exact d (h3.2 (by simp; omega))

theorem back (c : UInt8) : ((c.toNat : Int).toNat).toUInt8 = c := by simp

theorem plain_step (k : Nat) {s : ByteArray} {i : Int} {c : UInt8} {r : List UInt8} (h : At s i (c :: r)) (hs : s.size ≤ 4611686018427387904) :
    names_plain.l0 (k + 1) s s.size i = if (word c || (!decide (i = 0) && okc c)) = true then names_plain.l0 k s s.size (i + 1) else some false := by
  simp only [names_plain.l0, strings_IndexByte.f]
  rw [if_pos h.lt, if_pos h.ge, if_pos h.lt, h.byte, h.wrap hs, back]
  simp only [Option.bind_some]
  have hd := dash c
  unfold okc word
  generalize Lib.indexByte [45, 95, 46] c = j at *
  generalize (c.toNat : Int) = d at *
  by_cases a1 : d ≥ 97 <;> by_cases a2 : d ≤ 122 <;> by_cases a3 : d ≥ 48 <;> by_cases a4 : d ≤ 57 <;>
    by_cases a5 : i = 0 <;> by_cases a6 : j < 0
  all_goals first | (exfalso; omega) | skip
  all_goals
    have a7 := a6
    rw [hd] at a7
    simp [a1, a2, a3, a4, a5, a6, a7]

/-- A number of a byte for a loop with an index: the tail of a text. -/
theorem plain_tail : ∀ (r : List UInt8) (k : Nat) (s : ByteArray) (i : Int), At s i r → 0 < i → s.size ≤ 4611686018427387904 → r.length < k →
    names_plain.l0 k s s.size i = some (r.all okc)
  | [], k, s, i, h, h0, hs, hk => by
    obtain ⟨k, rfl⟩ : ∃ m, k = m + 1 := ⟨k - 1, by simp at hk; omega⟩
    simp only [names_plain.l0]
    rw [if_neg h.not_lt, toList_eq]
    have := h.nil
    have hl := len s
    cases hd : s.data.toList with
    | nil => rw [hd] at hl; simp at hl; omega
    | cons c r => rfl
  | c :: r, k, s, i, h, h0, hs, hk => by
    obtain ⟨k, rfl⟩ : ∃ m, k = m + 1 := ⟨k - 1, by simp at hk; omega⟩
    rw [plain_step k h hs]
    have hi : decide (i = 0) = false := decide_eq_false (by omega)
    rw [hi, List.all_cons]
    have hw : (word c || (!false && okc c)) = okc c := by unfold okc; cases word c <;> simp
    rw [hw]
    cases okc c
    · simp
    · rw [if_pos rfl, plain_tail r k s (i + 1) h.next (by omega) hs (by simp at hk; omega)]; rfl

theorem plain_eq (k : Nat) (s : ByteArray) (hs : s.size ≤ 4611686018427387904) (hk : s.size < k) : names_plain.f k s = some (plainL s.data.toList) := by
  unfold names_plain.f
  have h0 := At.zero s
  have hl := len s
  revert h0 hl
  generalize s.data.toList = l
  intro h0 hl
  obtain ⟨k, rfl⟩ : ∃ m, k = m + 1 := ⟨k - 1, by omega⟩
  cases l with
  | nil =>
    simp only [names_plain.l0]
    rw [if_neg h0.not_lt, toList_eq]
    have : s.data.toList = [] := List.length_eq_zero_iff.1 (by rw [len]; simpa using hl.symm)
    rw [this]; rfl
  | cons c r =>
    rw [plain_step k h0 hs]
    simp only [decide_true, Bool.not_true, Bool.false_and, Bool.or_false, plainL]
    cases word c
    · simp
    · rw [if_pos rfl, plain_tail r k s (0 + 1) h0.next (by omega) hs (by simp at hl; omega)]; rfl

theorem rplain_step (k : Nat) {s : ByteArray} {i : Int} {c : UInt8} {r : List UInt8} (h : At s i (c :: r)) (hs : s.size ≤ 4611686018427387904) :
    hoggetref03_plain.l0 (k + 1) s i = if (word c || (!decide (i = 0) && okc c)) = true then hoggetref03_plain.l0 k s (i + 1) else some false := by
  simp only [hoggetref03_plain.l0]
  rw [if_pos h.lt, if_pos h.ge, h.byte, h.wrap hs]
  unfold okc word
  generalize (c.toNat : Int) = d at *
  by_cases a1 : d ≥ 97 <;> by_cases a2 : d ≤ 122 <;> by_cases a3 : d ≥ 48 <;> by_cases a4 : d ≤ 57 <;>
    by_cases a5 : i = 0 <;> by_cases a6 : d = 45 <;> by_cases a7 : d = 95 <;> by_cases a8 : d = 46
  all_goals first | (exfalso; omega) | skip
  all_goals simp [a1, a2, a3, a4, a5, a6, a7, a8]

theorem rplain_tail : ∀ (r : List UInt8) (k : Nat) (s : ByteArray) (i : Int), At s i r → 0 < i → s.size ≤ 4611686018427387904 → r.length < k →
    hoggetref03_plain.l0 k s i = some (r.all okc)
  | [], k, s, i, h, h0, hs, hk => by
    obtain ⟨k, rfl⟩ : ∃ m, k = m + 1 := ⟨k - 1, by simp at hk; omega⟩
    simp only [hoggetref03_plain.l0]
    rw [if_neg h.not_lt, toList_eq]
    have := h.nil
    have hl := len s
    cases hd : s.data.toList with
    | nil => rw [hd] at hl; simp at hl; omega
    | cons c r => rfl
  | c :: r, k, s, i, h, h0, hs, hk => by
    obtain ⟨k, rfl⟩ : ∃ m, k = m + 1 := ⟨k - 1, by simp at hk; omega⟩
    rw [rplain_step k h hs]
    have hi : decide (i = 0) = false := decide_eq_false (by omega)
    rw [hi, List.all_cons]
    have hw : (word c || (!false && okc c)) = okc c := by unfold okc; cases word c <;> simp
    rw [hw]
    cases okc c
    · simp
    · rw [if_pos rfl, rplain_tail r k s (i + 1) h.next (by omega) hs (by simp at hk; omega)]; rfl

theorem rplain_eq (k : Nat) (s : ByteArray) (hs : s.size ≤ 4611686018427387904) (hk : s.size < k) : hoggetref03_plain.f k s = some (plainL s.data.toList) := by
  unfold hoggetref03_plain.f
  have h0 := At.zero s
  have hl := len s
  revert h0 hl
  generalize s.data.toList = l
  intro h0 hl
  obtain ⟨k, rfl⟩ : ∃ m, k = m + 1 := ⟨k - 1, by omega⟩
  cases l with
  | nil =>
    simp only [hoggetref03_plain.l0]
    rw [if_neg h0.not_lt, toList_eq]
    have : s.data.toList = [] := List.length_eq_zero_iff.1 (by rw [len]; simpa using hl.symm)
    rw [this]; rfl
  | cons c r =>
    rw [rplain_step k h0 hs]
    simp only [decide_true, Bool.not_true, Bool.false_and, Bool.or_false, plainL]
    cases word c
    · simp
    · rw [if_pos rfl, rplain_tail r k s (0 + 1) h0.next (by omega) hs (by simp at hl; omega)]; rfl

end Go.Proofs.Ytkcfigfhbeohfaa.Nm
