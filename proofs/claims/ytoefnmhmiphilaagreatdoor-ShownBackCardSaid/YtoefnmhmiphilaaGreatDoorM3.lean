/- Texts of the claim, merged. -/
import Derived.Test.YtoefnmhmiphilaaGreatDoorProg
import Derived.Test.YtoefnmhmiphilaaGreatDoorM1
import Derived.Test.YtoefnmhmiphilaaGreatDoorM2
import Derived.Test.YtoefnmhmiphilaaGreatDoorM0
import Derived.WalkKit
import Derived.OwnWalk
import Derived.Lib.Hide
import Derived.Deep.QuietTactic
import Derived.BigQuiet
import Derived.WalkLawsBesides
import Derived.WalkSpells
import Derived.Maps.AppendAt
set_option linter.unusedVariables false
set_option linter.unusedSimpArgs false
namespace Go.Proofs.YtoefnmhmiphilaaGreatDoor.Tp
open Go Go.RowKit Go.Proofs.YtoefnmhmiphilaaGreatDoorW.PrintWords

def cellsN (n : Nd) : List Value := [.int .i64 n.f0, .string n.f1, .int .i64 n.f2, .int .i64 n.f3]
def encs (o : List Nd) : List Value := o.flatMap cellsN
theorem encs_len (o : List Nd) : (encs o).length = o.length * 4 := by
  unfold encs
  induction o with
  | nil => rfl
  | cons n o ih => rw [List.flatMap_cons, List.length_append, ih, List.length_cons]; simp [cellsN]; omega
theorem encs_snoc (o : List Nd) (n : Nd) : encs (o ++ [n]) = encs o ++ cellsN n := by simp [encs]

structure Kp (S : Nat → Prop) (w W : World) : Prop where
  os : W.os = w.os
  tape : W.tape = w.tape
  output : W.output = w.output
  size : w.heap.size ≤ W.heap.size
  block : ∀ k, k < w.heap.size → ¬ S k → W.heap[k]? = w.heap[k]?
theorem Kp.refl (S : Nat → Prop) (w : World) : Kp S w w := ⟨rfl, rfl, rfl, Nat.le_refl _, fun _ _ _ => rfl⟩
theorem Kp.trans {S T : Nat → Prop} {a b c : World} (h : Kp S a b) (k : Kp T b c) (hT : ∀ i, i < a.heap.size → T i → S i) : Kp S a c :=
  ⟨k.os.trans h.os, k.tape.trans h.tape, k.output.trans h.output, Nat.le_trans h.size k.size, fun i hi hn => (k.block i (Nat.lt_of_lt_of_le hi h.size) (fun ht => hn (hT i hi ht))).trans (h.block i hi hn)⟩
theorem Kp.mono {S T : Nat → Prop} {a b : World} (h : Kp S a b) (hT : ∀ i, i < a.heap.size → S i → T i) : Kp T a b := ⟨h.os, h.tape, h.output, h.size, fun i hi hn => h.block i hi (fun hs => hn (hT i hi hs))⟩
theorem Kp.below {S : Nat → Prop} {a b : World} (h : Kp S a b) {B : Nat} (hB : B ≤ a.heap.size) (hS : ∀ i, S i → B ≤ i) : Below B a b := ⟨h.os, h.tape, h.output, h.size, fun i hi => h.block i (by omega) (fun hs => by have := hS i hs; omega)⟩
theorem Kp.of_below {S : Nat → Prop} {a b : World} (h : Below a.heap.size a b) : Kp S a b := ⟨h.os, h.tape, h.output, h.size, fun i hi _ => h.block i hi⟩
theorem Kp.set {S : Nat → Prop} {a b : World} (h : Kp S a b) {g i : Nat} (hg : S g) (v : Value) : Kp S a (b.setCell ⟨g, i, none⟩ v) :=
  have q := (Below.refl 0 b).setCell (p := ⟨g, i, none⟩) (Nat.zero_le _) v
  ⟨q.os.trans h.os, q.tape.trans h.tape, q.output.trans h.output, Nat.le_trans h.size q.size, fun k hk hn => (Below.heap_setCell b ⟨g, i, none⟩ v k (fun e => hn (by rw [e]; exact hg))).trans (h.block k hk hn)⟩
theorem Kp.drewN {S : Nat → Prop} {a b : World} (h : Kp S a b) (n : Nat) : Kp S a (b.drewN n) := ⟨h.os, h.tape, h.output, h.size, h.block⟩
theorem Kp.drew {S : Nat → Prop} {a b : World} (h : Kp S a b) : Kp S a b.drew := ⟨h.os, h.tape, h.output, h.size, h.block⟩
theorem Kp.alloc {S : Nat → Prop} {a b : World} (h : Kp S a b) (o : Obj) : Kp S a (b.alloc o) :=
  h.trans (T := fun _ => False) (Kp.of_below (below_alloc (Below.refl _ b) o)) (fun _ _ f => f.elim)

structure Sc (W : World) (g base : Nat) (s : ByteArray) (p : Nat) (o : List Nd) (c a : Int) (v : Value) : Prop where
  blk : W.heap[g]? = some (.cells #[.string s, .int .i64 (p : Int), v, .int .i64 c, .int .i64 a] 64 (0, 0))
  out : W.ownsRow base 32 4 v o.length (encs o)
  le : p ≤ s.size
  ge : base ≤ g
structure Stp (X : Nat → Prop) (g : Nat) (W : World) (v : Value) (W' : World) (v' : Value) : Prop where
  kp : Kp (fun k => k = g ∨ some k = v.ownBlock ∨ X k) W W'
  own : ∀ k, v'.ownBlock = some k → v.ownBlock = some k ∨ W.heap.size ≤ k
theorem Stp.refl (X : Nat → Prop) (g : Nat) (W : World) (v : Value) : Stp X g W v W v := ⟨Kp.refl _ _, fun _ h => .inl h⟩
theorem Stp.trans {X : Nat → Prop} {g : Nat} {W W1 W2 : World} {v v1 v2 : Value} (h : Stp X g W v W1 v1) (k : Stp X g W1 v1 W2 v2) : Stp X g W v W2 v2 :=
  ⟨h.kp.trans k.kp (fun i hi ht => by
    rcases ht with ht | ht | ht
    · exact .inl ht
    · rcases h.own i ht.symm with h1 | h1
      · exact .inr (.inl h1.symm)
      · omega
    · exact .inr (.inr ht)), fun i hi => by
    rcases k.own i hi with h1 | h1
    · exact h.own i h1
    · exact .inr (Nat.le_trans h.kp.size h1)⟩
theorem Stp.mono {X Y : Nat → Prop} {g : Nat} {W W1 : World} {v v1 : Value} (h : Stp X g W v W1 v1) (hX : ∀ i, i < W.heap.size → X i → Y i) : Stp Y g W v W1 v1 :=
  ⟨h.kp.mono (fun i hi hs => by
    rcases hs with h1 | h1 | h1
    · exact .inl h1
    · exact .inr (.inl h1)
    · exact .inr (.inr (hX i hi h1))), h.own⟩
theorem Stp.set {X : Nat → Prop} {g i : Nat} {W W1 : World} {v v1 : Value} (h : Stp X g W v W1 v1) (u : Value) : Stp X g W v (W1.setCell ⟨g, i, none⟩ u) v1 := ⟨h.kp.set (.inl rfl) u, h.own⟩
theorem Stp.drewN {X : Nat → Prop} {g : Nat} {W W1 : World} {v v1 : Value} (h : Stp X g W v W1 v1) (n : Nat) : Stp X g W v (W1.drewN n) v1 := ⟨h.kp.drewN n, h.own⟩
theorem Stp.drew {X : Nat → Prop} {g : Nat} {W W1 : World} {v v1 : Value} (h : Stp X g W v W1 v1) : Stp X g W v W1.drew v1 := ⟨h.kp.drew, h.own⟩
theorem Stp.alloc {X : Nat → Prop} {g : Nat} {W W1 : World} {v v1 : Value} (h : Stp X g W v W1 v1) (o : Obj) : Stp X g W v (W1.alloc o) v1 := ⟨h.kp.alloc o, h.own⟩

section
variable {W : World} {g base : Nat} {s : ByteArray} {p : Nat} {o : List Nd} {c a : Int} {v : Value}
theorem Sc.reads (h : Sc W g base s p o c a v) : W.cell? ⟨g, 0, none⟩ = some (.string s) ∧ W.cell? ⟨g, 1, none⟩ = some (.int .i64 (p : Int)) ∧ W.cell? ⟨g, 2, none⟩ = some v ∧ W.cell? ⟨g, 3, none⟩ = some (.int .i64 c) ∧ W.cell? ⟨g, 4, none⟩ = some (.int .i64 a) :=
  ⟨(blk_cell h.blk 0).trans rfl, (blk_cell h.blk 1).trans rfl, (blk_cell h.blk 2).trans rfl, (blk_cell h.blk 3).trans rfl, (blk_cell h.blk 4).trans rfl⟩
theorem Sc.frz (h : Sc W g base s p o c a v) (i : Nat) : W.frozen? ⟨g, i, none⟩ = false := blk_frozen h.blk i
theorem Sc.far (h : Sc W g base s p o c a v) : some g ≠ v.ownBlock := by
  intro e
  rcases h.out.2 with ⟨rfl, _⟩ | ⟨b, cap, cur, rfl, _, hb, _⟩
  · cases e
  · simp only [Value.ownBlock, Option.some.injEq] at e
    subst e
    rw [h.blk] at hb
    simp at hb
theorem Sc.apart (h : Sc W g base s p o c a v) {b : Nat} {ob : Obj} (hb : W.heap[b]? = some ob) (ht : ∀ cs t f, ob = .cells cs t f → t ≠ 32) : some b ≠ v.ownBlock := by
  intro e
  rcases h.out.2 with ⟨rfl, _⟩ | ⟨b', cap, cur, rfl, _, hb', _⟩
  · cases e
  · simp only [Value.ownBlock, Option.some.injEq] at e
    subst e
    rw [hb] at hb'
    exact ht _ _ _ (Option.some.inj hb') rfl
theorem own_same {W' : World} (h : W.ownsRow base 32 4 v o.length (encs o)) (hk : ∀ k, v.ownBlock = some k → W'.heap[k]? = W.heap[k]?) : W'.ownsRow base 32 4 v o.length (encs o) := by
  refine ⟨h.1, ?_⟩
  rcases h.2 with h1 | ⟨b, cap, cur, rfl, hb, hh, r⟩
  · exact .inl h1
  · exact .inr ⟨b, cap, cur, rfl, hb, (hk b rfl).trans hh, r⟩
theorem Sc.drewN (h : Sc W g base s p o c a v) (n : Nat) : Sc (W.drewN n) g base s p o c a v := ⟨h.blk, own_same h.out (fun _ _ => rfl), h.le, h.ge⟩
theorem Sc.drew (h : Sc W g base s p o c a v) : Sc W.drew g base s p o c a v := ⟨h.blk, own_same h.out (fun _ _ => rfl), h.le, h.ge⟩
theorem Sc.below (h : Sc W g base s p o c a v) {W' : World} (hb : Below W.heap.size W W') : Sc W' g base s p o c a v :=
  ⟨blk_below h.blk hb, own_same h.out (fun k hk => hb.block k (by
    rcases h.out.2 with ⟨rfl, _⟩ | ⟨b, cap, cur, rfl, _, hh, _⟩
    · cases hk
    · simp only [Value.ownBlock, Option.some.injEq] at hk; subst hk; exact blk_lt hh)), h.le, h.ge⟩
theorem Sc.alloc (h : Sc W g base s p o c a v) (ob : Obj) : Sc (W.alloc ob) g base s p o c a v := h.below (below_alloc (Below.refl _ W) ob)
theorem Sc.other (h : Sc W g base s p o c a v) {b i : Nat} (hb : b ≠ g) (hv : some b ≠ v.ownBlock) (u : Value) : Sc (W.setCell ⟨b, i, none⟩ u) g base s p o c a v :=
  ⟨blk_far h.blk (Ne.symm hb) u, own_same h.out (fun k hk => Below.heap_setCell W ⟨b, i, none⟩ u k (fun e => hv (by rw [hk]; exact congrArg some e.symm))), h.le, h.ge⟩
theorem Sc.own_far (h : Sc W g base s p o c a v) (i : Nat) (u : Value) : (W.setCell ⟨g, i, none⟩ u).ownsRow base 32 4 v o.length (encs o) :=
  own_same h.out (fun k hk => Below.heap_setCell W ⟨g, i, none⟩ u k (fun e => h.far (by rw [hk]; exact congrArg some e.symm)))
theorem Sc.at_ (h : Sc W g base s p o c a v) (q : Nat) (hq : q ≤ s.size) : Sc (W.setCell ⟨g, 1, none⟩ (.int .i64 (q : Int))) g base s q o c a v :=
  ⟨blk_put h.blk 1 _ rfl, h.own_far 1 _, hq, h.ge⟩
theorem Sc.fail (h : Sc W g base s p o c a v) (c' a' : Int) : Sc ((W.setCell ⟨g, 3, none⟩ (.int .i64 c')).setCell ⟨g, 4, none⟩ (.int .i64 a')) g base s p o c' a' v :=
  ⟨blk_put (blk_put h.blk 3 _ rfl) 4 _ rfl, own_same (h.own_far 3 (.int .i64 c')) (fun k hk => Below.heap_setCell _ ⟨g, 4, none⟩ _ k (fun e => h.far (by rw [hk]; exact congrArg some e.symm))), h.le, h.ge⟩
theorem Sc.keep (h : Sc W g base s p o c a v) {X : Nat → Prop} {W' : World} {v' : Value} (hs : Stp X g W v W' v') {b : Nat} {ob : Obj} (hb : W.heap[b]? = some ob) (hX : ¬ X b)
    (ht : ∀ cs t f, ob = .cells cs t f → t ≠ 32 ∧ t ≠ 64) : W'.heap[b]? = some ob := by
  rw [hs.kp.block b (blk_lt hb) ?_]
  · exact hb
  · rintro (rfl | h1 | h1)
    · rw [h.blk] at hb
      exact (ht _ _ _ (Option.some.inj hb).symm).2 rfl
    · exact h.apart hb (fun cs t f e => (ht cs t f e).1) h1
    · exact hX h1
end
end Go.Proofs.YtoefnmhmiphilaaGreatDoor.Tp

namespace Go.Proofs.YtoefnmhmiphilaaGreatDoor.Tp
open Go Go.RowKit Go.Proofs.YtoefnmhmiphilaaGreatDoorW.PrintWords

def rest (s : ByteArray) (p : Nat) : List UInt8 := s.data.toList.drop p
theorem rest_len (s : ByteArray) (p : Nat) : (rest s p).length = s.size - p := by unfold rest; rw [List.length_drop]; rfl
theorem rest_nil {s : ByteArray} {p : Nat} (h : p ≤ s.size) : rest s p = [] ↔ p = s.size := by
  constructor
  · intro e; have := rest_len s p; rw [e] at this; simp at this; omega
  · intro e; apply List.eq_nil_of_length_eq_zero; rw [rest_len]; omega
theorem rest_cons {s : ByteArray} {p : Nat} (h : p < s.size) : rest s p = s[p] :: rest s (p + 1) := by
  unfold rest
  rw [List.drop_eq_getElem_cons (by rw [Array.length_toList]; exact h)]
  rfl
theorem rest_app {s : ByteArray} {p : Nat} {c x : List UInt8} (h : rest s p = c ++ x) : rest s (p + c.length) = x := by
  unfold rest at h ⊢
  rw [← List.drop_drop, h, List.drop_left]
theorem rest_lt {s : ByteArray} {p : Nat} {b : UInt8} {t : List UInt8} (h : rest s p = b :: t) : p < s.size := by
  have := rest_len s p
  rw [h, List.length_cons] at this
  omega
theorem rest_get {s : ByteArray} {p : Nat} {b : UInt8} {t : List UInt8} (h : rest s p = b :: t) (hp : p < s.size) : s[p] = b ∧ rest s (p + 1) = t := by
  rw [rest_cons hp] at h
  cases h
  exact ⟨rfl, rfl⟩

set_option maxHeartbeats 2000000 in
theorem small_calls (b : UInt8) (W : World) : Calls Tryz.prog 56 #[.int .u8 (b.toNat : Int)] W fun e W' => e = .returned (.bool (small b)) ∧ W' = W := by
  have hb : (b.toNat : Int) ≤ 255 := by have := UInt8.toNat_lt b; omega
  unfold small
  by_cases h1 : 97 ≤ b.toNat
  · by_cases h2 : b.toNat ≤ 122
    · have e1 : (97 : Int) ≤ (b.toNat : Int) := by omega
      have e2 : (b.toNat : Int) ≤ 122 := by omega
      rw [decide_eq_true h1, decide_eq_true h2]
      clear h1 h2
      go_enter Tryz.func56, Tryz.ntmps56
      go_wp2
      go_ret
      exact ⟨rfl, rfl⟩
    · have e1 : (97 : Int) ≤ (b.toNat : Int) := by omega
      have e2 : decide ((b.toNat : Int) ≤ 122) = false := by simp; omega
      rw [decide_eq_true h1, decide_eq_false h2]
      clear h1 h2
      go_enter Tryz.func56, Tryz.ntmps56
      go_wp2
      go_ret
      exact ⟨rfl, rfl⟩
  · have e1 : decide ((97 : Int) ≤ (b.toNat : Int)) = false := by simp; omega
    rw [decide_eq_false h1]
    clear h1
    go_enter Tryz.func56, Tryz.ntmps56
    go_wp2
    go_ret
    exact ⟨rfl, rfl⟩
set_option maxHeartbeats 2000000 in
theorem digit_calls (b : UInt8) (W : World) : Calls Tryz.prog 58 #[.int .u8 (b.toNat : Int)] W fun e W' => e = .returned (.bool (digit b)) ∧ W' = W := by
  have hb : (b.toNat : Int) ≤ 255 := by have := UInt8.toNat_lt b; omega
  unfold digit
  by_cases h1 : 48 ≤ b.toNat
  · by_cases h2 : b.toNat ≤ 57
    · have e1 : (48 : Int) ≤ (b.toNat : Int) := by omega
      have e2 : (b.toNat : Int) ≤ 57 := by omega
      rw [decide_eq_true h1, decide_eq_true h2]
      clear h1 h2
      go_enter Tryz.func58, Tryz.ntmps58
      go_wp2
      go_ret
      exact ⟨rfl, rfl⟩
    · have e1 : (48 : Int) ≤ (b.toNat : Int) := by omega
      have e2 : decide ((b.toNat : Int) ≤ 57) = false := by simp; omega
      rw [decide_eq_true h1, decide_eq_false h2]
      clear h1 h2
      go_enter Tryz.func58, Tryz.ntmps58
      go_wp2
      go_ret
      exact ⟨rfl, rfl⟩
  · have e1 : decide ((48 : Int) ≤ (b.toNat : Int)) = false := by simp; omega
    rw [decide_eq_false h1]
    clear h1
    go_enter Tryz.func58, Tryz.ntmps58
    go_wp2
    go_ret
    exact ⟨rfl, rfl⟩

section
variable {W : World} {g base : Nat} {s : ByteArray} {p : Nat} {o : List Nd} {c a : Int} {v : Value}
set_option maxHeartbeats 2000000 in
theorem stop_calls (h : Sc W g base s p o c a v) (X : Nat → Prop) (e q : Int) :
    Calls Tryz.prog 55 #[.pointer (some ⟨g, 0, none⟩), .int .i64 e, .int .i64 q] W fun r W' => r = .returned (.bool false) ∧ Sc W' g base s p o e q v ∧ Stp X g W v W' v := by
  obtain ⟨c0, c1, c2, c3, c4⟩ := h.reads
  have f3 := h.frz 3
  have f4 := h.frz 4
  have H := Lib.hid h
  clear h
  have hu := Tryz.underlying40
  go_enter Tryz.func55, Tryz.ntmps55
  go_wp2
  go_ret
  exact ⟨rfl, H.out.fail e q, ((Stp.refl X g W v).set _).set _⟩
set_option maxHeartbeats 2000000 in
theorem odd_calls (h : Sc W g base s p o c a v) (X : Nat → Prop) :
    Calls Tryz.prog 39 #[.pointer (some ⟨g, 0, none⟩)] W fun r W' => r = .returned (.bool false) ∧ Sc W' g base s p o (odd (rest s p)).1 ((s.size : Int) - (odd (rest s p)).2) v ∧ Stp X g W v W' v := by
  obtain ⟨c0, c1, c2, c3, c4⟩ := h.reads
  have hp := h.le
  have hl := rest_len s p
  have hn := rest_nil hp
  have H := Lib.hid h
  clear h
  by_cases hlt : p < s.size
  · have e0 : odd (rest s p) = (10, s.size - p) := by unfold odd; rw [if_neg (by rw [hn]; omega), hl]
    have e1 : ((s.size : Int) - ((s.size - p : Nat) : Int)) = (p : Int) := by omega
    rw [e0]
    simp only
    rw [e1]
    have d1 : decide ((s.size : Int) ≤ (p : Int)) = false := by simp; omega
    clear hl hn e0 e1
    go_enter Tryz.func39, Tryz.ntmps39
    go_wp2
    go_quiet (fail)
    go_wp2_with (first | (go_at_call 55; refine (stop_calls (H.out.drewN _) X _ _).mono ?_; rintro r W' ⟨rfl, hS, hT⟩))
    go_ret
    exact ⟨rfl, hS, ((Stp.refl X g W v).drewN _).trans hT⟩
  · have e0 : odd (rest s p) = (11, 0) := by unfold odd; rw [if_pos (hn.2 (by omega))]
    rw [e0]
    simp only [Int.natCast_zero, Int.sub_zero]
    have d1 : (s.size : Int) ≤ (p : Int) := by omega
    clear hl hn e0
    go_enter Tryz.func39, Tryz.ntmps39
    go_wp2
    go_quiet (fail)
    go_wp2_with (first | (go_at_call 55; refine (stop_calls (H.out.drewN _) X _ _).mono ?_; rintro r W' ⟨rfl, hS, hT⟩))
    go_ret
    exact ⟨rfl, hS, ((Stp.refl X g W v).drewN _).trans hT⟩
theorem own_form {w : World} {base e size n : Nat} {v : Value} {xs : List Value} (h : w.ownsRow base e size v (n + 1) xs) : ∃ g cap, v = .slice (some ⟨g, 0, none⟩) (n + 1) cap := by
  rcases h.2 with ⟨_, h1⟩ | ⟨g, cap, cur, h1, _⟩
  · omega
  · exact ⟨g, cap, h1⟩
theorem info_node : (Tryz.prog.info? 32).map (fun i => (i.zero, i.size, i.bytes)) = some (some (.agg #[.int .i64 0, .string ⟨#[]⟩, .int .i64 0, .int .i64 0]), 4, 40) := by kernel_rfl
set_option maxRecDepth 100000 in
set_option maxHeartbeats 2000000 in
theorem put_calls (h : Sc W g base s p o c a v) (X : Nat → Prop) (k : Int) (t : ByteArray) (n d : Int) (hl : o.length ≤ 4294967296) :
    Calls Tryz.prog 61 #[.pointer (some ⟨g, 0, none⟩), .int .i64 k, .string t, .int .i64 n, .int .i64 d] W fun r W' => ∃ v', r = .returned (.bool true) ∧ Sc W' g base s p (o ++ [⟨k, t, n, d⟩]) c a v' ∧ Stp X g W v W' v' := by
  obtain ⟨c0, c1, c2, c3, c4⟩ := h.reads
  have hg := blk_lt h.blk
  have hb : base ≤ W.heap.size := Nat.le_trans h.ge (Nat.le_of_lt hg)
  have H := Lib.hid h
  have HL := Lib.hid hl
  clear h hl
  have hu := Tryz.underlying32
  go_enter Tryz.func61, Tryz.ntmps61
  go_wp2_with (first | (at_builtin; refine print_append_cells (w0 := W) base rfl (.tmp 15) (.tmp 21) 22 32 (.agg #[.int .i64 0, .string ⟨#[]⟩, .int .i64 0, .int .i64 0]) 4 40 rfl Tryz.underlying22 info_node rfl (by decide) (by decide) v o.length (encs o) (cellsN ⟨k, t, n, d⟩) rfl rfl rfl ?h1 H.out.out (Below.refl _ _) hb ?hl ?_; (case h1 => intro u hu; simp [cellsN] at hu; rcases hu with rfl | rfl | rfl | rfl <;> rfl); (case hl => have := HL.out; omega); intro v1 w1 ho hbel hgr hat; obtain ⟨gg, cap, rfl⟩ := own_form ho; have HO := Lib.hid ho; have HG := Lib.hid hgr; have HA := Lib.hid hat; have hblk := Lib.hid (blk_grown H.out.blk hgr H.out.far); have c2' : w1.cell? ⟨g, 2, none⟩ = some v := (blk_cell hblk.out 2).trans rfl; have f2' := blk_frozen hblk.out 2; clear ho hgr hat hbel))
  go_ret
  have hfar : some g ≠ (Value.slice (some ⟨gg, 0, none⟩) (o.length + 1) cap).ownBlock := by
    rcases HA.out with h1 | ⟨b, h1, h2⟩
    · rw [h1]; exact H.out.far
    · rw [h1]; intro e; simp at e; omega
  refine ⟨_, rfl, ⟨blk_put hblk.out 2 _ rfl, ?_, H.out.le, H.out.ge⟩, ?_⟩
  · rw [encs_snoc, List.length_append]
    exact own_setCell HO.out hfar _
  · refine Stp.set ⟨⟨HG.out.os, HG.out.tape, HG.out.output, HG.out.size, fun i hi hn => HG.out.block i hi (fun e => hn (.inr (.inl e)))⟩, fun i hi => ?_⟩ _
    rcases HA.out with h1 | ⟨b, h1, h2⟩
    · exact .inl (h1 ▸ hi)
    · rw [h1] at hi; cases hi; exact .inr h2
end
end Go.Proofs.YtoefnmhmiphilaaGreatDoor.Tp
