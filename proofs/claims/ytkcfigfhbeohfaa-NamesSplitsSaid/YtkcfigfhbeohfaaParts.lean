/- hogget/names.parts and the iterator that it hands back: it hands on the names of a path, one by one, what is no name as an empty text. -/
import Derived.Test.YtkcfigfhbeohfaaCut
import Derived.Test.YtkcfigfhbeohfaaRng
import Derived.Maps.AppendAt
import Derived.Sort.LoopGhostIn
import Derived.Sort.QuietIn
import Derived.RangeFuncBox
import Derived.OwnWalkIn
import Derived.TacticsInMore
import Derived.LoopNIn
import Derived.LoopIn
namespace Go.Proofs.Ytkcfigfhbeohfaa.Parts
open Go Go.RowKit Go.Proofs.Ytkcfigfhbeohfaa.Cut Go.Proofs.Ytkcfigfhbeohfaa.Rng
attribute [local go_sem] Oper.semAt_some

def front : ByteArray := ⟨#[110, 111, 100, 101, 95, 109, 111, 100, 117, 108, 101, 115, 47]⟩
/-- A text behind `front`, or the text. -/
def behind (s : ByteArray) : ByteArray := ⟨(Lib.trimPrefix s.data.toList front.data.toList).toArray⟩
def isFront (s : ByteArray) : Bool := Lib.hasPrefix s.data.toList front.data.toList
def isAt (s : ByteArray) : Bool := Lib.hasPrefix s.data.toList (⟨#[64]⟩ : ByteArray).data.toList
/-- One name, what is behind it, and whether there is more. -/
def nameOf (s : ByteArray) : ByteArray × ByteArray × Bool :=
  if (isAt (cutB (behind s) 47).1 && (cutB (behind s) 47).2.2) = true then
    ((cutB (behind s) 47).1 ++ ((⟨#[47]⟩ : ByteArray) ++ (cutB (cutB (behind s) 47).2.1 47).1), (cutB (cutB (behind s) 47).2.1 47).2)
  else cutB (behind s) 47
def handed (s : ByteArray) : ByteArray := if isFront s = true then (nameOf s).1 else ⟨#[]⟩
def partsF : Nat → ByteArray → List ByteArray
  | 0, _ => []
  | k + 1, s => handed s :: (if (nameOf s).2.2 = true then partsF k (nameOf s).2.1 else [])
/-- What the iterator hands on. -/
def partsL (s : ByteArray) : List ByteArray := if s.size = 0 then [] else partsF (s.size + 1) s

theorem cutB_size (s : ByteArray) (c : UInt8) : (cutB s c).1.size ≤ s.size ∧ (cutB s c).2.1.size ≤ s.size ∧ ((cutB s c).2.2 = true → (cutB s c).1.size + (cutB s c).2.1.size < s.size) := by
  have hlt := indexByte_lt s.data.toList c
  rw [Array.length_toList] at hlt
  have hsz : s.data.size = s.size := rfl
  unfold cutB
  split
  · refine ⟨?_, ?_, fun _ => ?_⟩ <;> simp only [ByteArray.size_extract] <;> omega
  · exact ⟨Nat.le_refl _, Nat.zero_le _, fun h => by cases h⟩

theorem behind_size (s : ByteArray) : (behind s).size ≤ s.size := by
  have h : (Lib.trimPrefix s.data.toList front.data.toList).length ≤ s.size := by
    unfold Lib.trimPrefix
    have : s.data.toList.length = s.size := by rw [Array.length_toList]; rfl
    split
    · rw [List.length_drop]; omega
    · omega
  exact h

theorem nameOf_size (s : ByteArray) : (nameOf s).1.size ≤ s.size ∧ ((nameOf s).2.2 = true → (nameOf s).2.1.size < s.size) := by
  have h0 := behind_size s
  have h1 := cutB_size (behind s) 47
  have h2 := cutB_size (cutB (behind s) 47).2.1 47
  unfold nameOf
  split
  · rename_i h
    rw [Bool.and_eq_true] at h
    have h3 := h1.2.2 h.2
    refine ⟨?_, fun hm => ?_⟩
    · simp only [ByteArray.size_append]
      have : (⟨#[47]⟩ : ByteArray).size = 1 := rfl
      omega
    · have := h2.2.2 hm
      simp only
      omega
  · exact ⟨by omega, fun hm => by have := h1.2.2 hm; omega⟩

theorem partsF_more : ∀ (k : Nat) (s : ByteArray), s.size < k → ∀ j, partsF (k + j) s = partsF k s := by
  intro k
  induction k with
  | zero => intro s h; omega
  | succ k ih =>
    intro s h j
    have hs := (nameOf_size s).2
    rw [show k + 1 + j = (k + j) + 1 by omega]
    simp only [partsF]
    by_cases hm : (nameOf s).2.2 = true
    · rw [if_pos hm, if_pos hm, ih _ (by have := hs hm; omega) j]
    · rw [if_neg hm, if_neg hm]

/-- What is still to be handed on. -/
def left (more : Bool) (s : ByteArray) : List ByteArray := if more = true then partsF (s.size + 1) s else []
theorem left_step (s : ByteArray) : left true s = handed s :: left (nameOf s).2.2 (nameOf s).2.1 := by
  unfold left
  rw [if_pos rfl, partsF]
  by_cases hm : (nameOf s).2.2 = true
  · rw [if_pos hm, if_pos hm]
    have h := (nameOf_size s).2 hm
    have := partsF_more ((nameOf s).2.1.size + 1) (nameOf s).2.1 (by omega) (s.size - ((nameOf s).2.1.size + 1))
    rw [show (nameOf s).2.1.size + 1 + (s.size - ((nameOf s).2.1.size + 1)) = s.size by omega] at this
    rw [this]
  · rw [if_neg hm, if_neg hm]

theorem yield_step {n l : Nat} {P : Program} {o : Oper} {a : Act} {next : Act → World → Prop} {Q : Exit → Act → World → Prop} {x : Array Value} {W1 : World} {R : Ending → World → Prop}
    (hY : YieldAt Fence.wide (n - 1) P l x W1 R) (h : ∀ e W', R e W' → (match e with
      | .returned v => next (a.put o.dst v) W'
      | .panicked chain => Q (.panic chain) a W'
      | .outgrown => LetsOut Q)) : Oper.uponIn Fence.wide n P o a next Q (Sem.run P (Instr.yield l x) W1) := by
  obtain ⟨fn, tmps, assign, body, hy, hR⟩ := hY
  rw [hy]
  exact ⟨fun h => (by cases h), hR.mono fun e W' hr => by have := h e W' hr; cases e <;> exact this⟩
theorem boxed_drewN {W : World} {B t n : Nat} {v : Value} (h : Boxed W B t v) : Boxed (W.drewN n) B t v := h
theorem boxed_kept {W W' : World} {B t : Nat} {v : Value} (h : W'.heap[B]? = W.heap[B]?) (hb : Boxed W B t v) : Boxed W' B t v := h.trans hb

def encS (s : ByteArray) : Array Value := #[.string s]

/-- How many rounds may still come. -/
def cnt (more : Bool) (s : ByteArray) : Nat := if more = true then s.size + 1 else 0
theorem cnt_lt {m : Bool} {s t : ByteArray} (h : m = true → t.size < s.size) : cnt m t < cnt true s := by
  unfold cnt
  cases m
  · simp
  · simpa using h rfl
theorem left_end (s0 s : ByteArray) (i : Nat) (h : (partsL s0).drop i = left false s) (hi : i ≤ (partsL s0).length) : i = (partsL s0).length := by
  have : (partsL s0).drop i = [] := h
  have := List.drop_eq_nil_iff.1 this
  omega

theorem drop_head {l r : List ByteArray} {i : Nat} {x : ByteArray} (h : l.drop i = x :: r) : (l.map encS)[i]? = some #[.string x] ∧ l.drop (i + 1) = r := by
  have h1 : l[i]? = some x := by
    have := congrArg (·[0]?) h
    simpa using this
  refine ⟨by rw [List.getElem?_map, h1]; rfl, ?_⟩
  rw [← List.drop_drop, h]; rfl

set_option maxRecDepth 100000 in
set_option maxHeartbeats 2000000 in
theorem parts1_iter (s0 : ByteArray) (B : Nat) (Kp : World → World → Prop) (W : World) (hsz : s0.size ≤ 2147483647)
    (hbox : Boxed W B 9 (.string s0)) (hKp : ∀ X Y, Kp X Y → Y.heap[B]? = X.heap[B]?) :
    IterC Try.prog 32 #[.pointer (some ⟨B, 0, none⟩)] (fun r => r = B) Kp ((partsL s0).map encS) W := by
  intro n l J Jx hJ hJx hY h0
  have hc := hbox.cell
  have hf := hbox.frozen
  refine callsIn_of_wp Try.func32 rfl trivial ?_ rfl
  simp only [Try.ntmps32, List.size_toArray, List.length_cons, List.length_nil, Nat.reduceAdd, Nat.reduceSub, Array.replicate_succ, Array.replicate_zero, List.push_toArray, List.append_toArray, List.nil_append, List.cons_append]
  have e0 : ∃ m : Bool, partsL s0 = left m s0 ∧ m = !(s0.toList == []) := by
    refine ⟨_, ?_, rfl⟩
    unfold partsL left
    have h : s0.data.size = s0.toList.length := by rw [← Array.length_toList, ByteArray.toList_eq]
    have h0 : s0.size = s0.data.size := rfl
    rw [h0]
    cases hl : s0.toList with
    | nil => rw [hl] at h; rw [if_pos (by simpa using h)]; rfl
    | cons x l => rw [hl] at h; rw [if_neg (by rw [h]; simp)]; rfl
  obtain ⟨m0, e0, em⟩ := e0
  have hF : ∀ k, Fence.wide.fn k := fun _ => trivial
  have hD : Fence.wide.depth.isSome = false := rfl
  gi_wp2
  gi_loopg [3] (cnt m0 s0) (fun k v wr => ∃ (more : Bool) (s : ByteArray) (i : Nat), v = .bool more ∧ Hid (k = cnt more s) ∧ Hid ((partsL s0).drop i = left more s) ∧ Hid (s.size ≤ 2147483647 ∧ i ≤ (partsL s0).length) ∧ Boxed wr B 9 (.string s) ∧ J i wr)
  case atStart =>
    have e1 : (!s0.toList.isEmpty) = m0 := by rw [em]; cases s0.toList <;> rfl
    exact ⟨m0, s0, 0, by rw [e1], Lib.hid rfl, Lib.hid e0, Lib.hid ⟨hsz, Nat.zero_le _⟩, hbox, h0⟩
  case round =>
    obtain ⟨more, s, i, rfl, Hk, Hl, Hs, hb, hj⟩ := hrel
    have hc := hb.cell
    have hf := hb.frozen
    cases more with
    | false =>
      gi_wp2
      go_end0
      have hi := left_end s0 s i Hl.out Hs.out.2
      exact ⟨⟨_, rfl⟩, .inl (by rw [List.length_map, ← hi]; exact hj)⟩
    | true =>
      have hs := Hs.out.1
      have HS := Lib.hid (left_step s)
      have HZ := Lib.hid (nameOf_size s)
      have hbs := behind_size s
      have C1 : Hid (∀ w, Calls Try.prog 19 #[.string s, .string ⟨#[110, 111, 100, 101, 95, 109, 111, 100, 117, 108, 101, 115, 47]⟩] w fun e w' => e = .returned (.tuple #[.string (behind s), .bool (isFront s)]) ∧ w = w') := Lib.hid (fun w => (Try.strings_CutPrefix s front w).mono fun e w' h => ⟨h.1, h.2.symm⟩)
      have C2 := Lib.hid (fun w => cut_calls (behind s) 47 w (by omega))
      have hz1 := cutB_size (behind s) 47
      have HN : Hid (nameOf s = if (isAt (cutB (behind s) 47).1 && (cutB (behind s) 47).2.2) = true then
        ((cutB (behind s) 47).1 ++ ((⟨#[47]⟩ : ByteArray) ++ (cutB (cutB (behind s) 47).2.1 47).1), (cutB (cutB (behind s) 47).2.1 47).2)
        else cutB (behind s) 47) := Lib.hid rfl
      have HH : Hid (handed s = if isFront s = true then (nameOf s).1 else ⟨#[]⟩) := Lib.hid rfl
      revert C1 C2 HN HH hz1 hbs
      generalize isFront s = ok
      generalize behind s = r
      rcases cutB r 47 with ⟨a, b, m⟩
      intro hbs C1 C2 hz1 HN HH
      have C3 : Hid (∀ w, Calls Try.prog 33 #[.string a, .string ⟨#[64]⟩] w fun e w' => e = .returned (.bool (isAt a)) ∧ w = w') := Lib.hid (fun w => (Try.strings_HasPrefix a ⟨#[64]⟩ w).mono fun e w' h => ⟨h.1, h.2.symm⟩)
      have C4 := Lib.hid (fun w => cut_calls b 47 w (by have := hz1.2.1; simp only at this; omega))
      have hz2 := cutB_size b 47
      revert C3 C4 HN hz2
      generalize isAt a = t
      rcases cutB b 47 with ⟨d, b2, m2⟩
      intro HN C3 C4 hz2
      dsimp only at hz1 hz2
      have k1 : a.size ≤ 2147483647 := by omega
      have k2 : d.size ≤ 2147483647 := by omega
      have k3 : b.size ≤ 2147483647 := by omega
      have k4 : b2.size ≤ 2147483647 := by omega
      clear hz1 hz2 hbs
      cases m <;> cases t <;> cases ok
      all_goals
        gi_wp2_with (first | (gi_at_call 19; refine (callsIn_wide.2 (C1.out _)).mono ?_; rintro e w' ⟨rfl, rfl⟩) | (gi_at_call 33; refine (callsIn_wide.2 (C3.out _)).mono ?_; rintro e w' ⟨rfl, rfl⟩) | (gi_at_call 21; first | ((with_reducible refine (callsIn_wide.2 (C2.out _)).mono ?_); rintro e w' ⟨rfl, n1, rfl⟩) | ((with_reducible refine (callsIn_wide.2 (C4.out _)).mono ?_); rintro e w' ⟨rfl, n2, rfl⟩)))
        rw [HN.out] at HS HH
        simp only [Bool.and_true, Bool.and_false, if_true, if_false, Bool.false_eq_true] at HS HH
        have hx := drop_head (Hl.out.trans (HS.out.trans (congrArg (· :: _) HH.out)))
        have hi1 : i + 1 ≤ (partsL s0).length := by have := (List.getElem?_eq_some_iff.1 hx.1).1; rw [List.length_map] at this; omega
        refine yield_step (hY i _ _ ?hj hx.1) ?_
        case hj => repeat (first | exact hj | apply AbidesC.setCell hJ rfl | apply AbidesC.drew hJ)
        rintro e W3 (⟨rfl, hj3, hk3⟩ | ⟨rfl, hjx⟩)
        · have hb3 := boxed_kept (hKp _ _ hk3) (by repeat (first | exact hb | apply Boxed.set | apply boxed_drewN))
          gi_wp2
          gi_roundg (cnt (nameOf s).2.2 (nameOf s).2.1)
          case rel => exact ⟨_, _, i + 1, rfl, Lib.hid (by rw [HN.out]; simp), Lib.hid hx.2, Lib.hid ⟨by first | exact k3 | exact k4, hi1⟩, hb3, hj3⟩
          case measure => rw [Hk.out]; exact cnt_lt HZ.out.2
        · gi_wp2
          refine bodyPost_ret (results_none rfl _ _ _) rfl ?_
          exact ⟨⟨_, rfl⟩, .inr hjx⟩

set_option maxHeartbeats 1000000 in
theorem parts_calls (s : ByteArray) (w : World) : CallsIn Fence.wide 0 Try.prog 24 #[.string s] w fun e w' =>
    e = .returned (.func (.func 32) #[] #[.pointer (some ⟨w.heap.size, 0, none⟩)]) ∧ w' = w.alloc (.cells #[.string s] 9) := by
  refine callsIn_of_wp Try.func24 rfl trivial ?_ rfl
  simp only [Try.ntmps24, List.size_toArray, List.length_cons, List.length_nil, Nat.reduceAdd, Nat.reduceSub, Array.replicate_succ, Array.replicate_zero, List.push_toArray, List.append_toArray, List.nil_append, List.cons_append]
  gi_wp2
  go_ret
  exact ⟨rfl, rfl⟩

end Go.Proofs.Ytkcfigfhbeohfaa.Parts
