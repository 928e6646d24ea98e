/- The scanner in memory: its cells, its row of nodes, and what its methods leave as it was. -/
import Derived.Test.YtkcfigfhbeohfaaGreatDoorProg
import Derived.Test.YtkcfigfhbeohfaaGreatDoorWWords
import Derived.Test.YtkcfigfhbeohfaaGreatDoorWKept
import Derived.Test.YtkcfigfhbeohfaaGreatDoorTpa
import Derived.WalkKit
import Derived.OwnWalk
import Derived.Lib.Hide
import Derived.Deep.QuietTactic
import Derived.BigQuiet
import Derived.WalkLawsBesides
import Derived.WalkSpells
namespace Go.Proofs.YtkcfigfhbeohfaaGreatDoor.Tp
open Go Go.RowKit Go.Proofs.YtkcfigfhbeohfaaGreatDoorW.PrintWords

def cellsN (n : Nd) : List Value := [.int .i64 n.f0, .string n.f1, .int .i64 n.f2, .int .i64 n.f3]
def encs (o : List Nd) : List Value := o.flatMap cellsN
theorem encs_len (o : List Nd) : (encs o).length = o.length * 4 := by
  unfold encs
  induction o with
  | nil => rfl
  | cons n o ih => rw [List.flatMap_cons, List.length_append, ih, List.length_cons]; simp [cellsN]; omega
theorem encs_snoc (o : List Nd) (n : Nd) : encs (o ++ [n]) = encs o ++ cellsN n := by simp [encs]

/-- What may have changed: the blocks of S. -/
structure Kp (S : Nat → Prop) (w W : World) : Prop where
  os : W.os = w.os
  tape : W.tape = w.tape
  output : W.output = w.output
  size : w.heap.size ≤ W.heap.size
  block : ∀ k, k < w.heap.size → ¬ S k → W.heap[k]? = w.heap[k]?
theorem Kp.refl (S : Nat → Prop) (w : World) : Kp S w w := ⟨rfl, rfl, rfl, Nat.le_refl _, fun _ _ _ => rfl⟩
theorem Kp.trans {S T : Nat → Prop} {a b c : World} (h : Kp S a b) (k : Kp T b c) (hT : ∀ i, i < a.heap.size → T i → S i) : Kp S a c :=
  ⟨k.os.trans h.os, k.tape.trans h.tape, k.output.trans h.output, Nat.le_trans h.size k.size, fun i hi hn => (k.block i (Nat.lt_of_lt_of_le hi h.size) (fun ht => hn (hT i hi ht))).trans (h.block i hi hn)⟩
theorem Kp.mono {S T : Nat → Prop} {a b : World} (h : Kp S a b) (hT : ∀ i, i < a.heap.size → S i → T i) : Kp T a b := ⟨h.os, h.tape, h.output, h.size, fun i hi hn => h.block i hi (fun hs => hn (hT i hi hs))⟩
theorem Kp.below {S : Nat → Prop} {a b : World} (h : Kp S a b) {B : Nat} (hB : B ≤ a.heap.size) (hS : ∀ i, S i → B ≤ i) : Below B a b := ⟨h.os, h.tape, h.output, h.size, fun i hi => h.block i (by omega) (fun hs => by have := hS i hs; omega)⟩
theorem Kp.of_below {S : Nat → Prop} {a b : World} (h : Below a.heap.size a b) : Kp S a b := ⟨h.os, h.tape, h.output, h.size, fun i hi _ => h.block i hi⟩
theorem Kp.set {S : Nat → Prop} {a b : World} (h : Kp S a b) {g i : Nat} (hg : S g) (v : Value) : Kp S a (b.setCell ⟨g, i, none⟩ v) :=
  have q := (Below.refl 0 b).setCell (p := ⟨g, i, none⟩) (Nat.zero_le _) v
  ⟨q.os.trans h.os, q.tape.trans h.tape, q.output.trans h.output, Nat.le_trans h.size q.size, fun k hk hn => (Below.heap_setCell b ⟨g, i, none⟩ v k (fun e => hn (by rw [e]; exact hg))).trans (h.block k hk hn)⟩
theorem Kp.drewN {S : Nat → Prop} {a b : World} (h : Kp S a b) (n : Nat) : Kp S a (b.drewN n) := ⟨h.os, h.tape, h.output, h.size, h.block⟩
theorem Kp.drew {S : Nat → Prop} {a b : World} (h : Kp S a b) : Kp S a b.drew := ⟨h.os, h.tape, h.output, h.size, h.block⟩
theorem Kp.alloc {S : Nat → Prop} {a b : World} (h : Kp S a b) (o : Obj) : Kp S a (b.alloc o) :=
  h.trans (T := fun _ => False) (Kp.of_below (below_alloc (Below.refl _ b) o)) (fun _ _ f => f.elim)

/-- The scanner at block g: its text, where it stands, its nodes, its error. -/
structure Sc (W : World) (g base : Nat) (s : ByteArray) (p : Nat) (o : List Nd) (c a : Int) (v : Value) : Prop where
  blk : W.heap[g]? = some (.cells #[.string s, .int .i64 (p : Int), v, .int .i64 c, .int .i64 a] 35 (0, 0))
  out : W.ownsRow base 45 4 v o.length (encs o)
  le : p ≤ s.size
  ge : base ≤ g
/-- What a method may have changed: the scanner's block, that of its nodes, and X; where the nodes lie now. -/
structure Stp (X : Nat → Prop) (g : Nat) (W : World) (v : Value) (W' : World) (v' : Value) : Prop where
  kp : Kp (fun k => k = g ∨ some k = v.ownBlock ∨ X k) W W'
  own : ∀ k, v'.ownBlock = some k → v.ownBlock = some k ∨ W.heap.size ≤ k
theorem Stp.refl (X : Nat → Prop) (g : Nat) (W : World) (v : Value) : Stp X g W v W v := ⟨Kp.refl _ _, fun _ h => .inl h⟩
theorem Stp.trans {X : Nat → Prop} {g : Nat} {W W1 W2 : World} {v v1 v2 : Value} (h : Stp X g W v W1 v1) (k : Stp X g W1 v1 W2 v2) : Stp X g W v W2 v2 :=
  ⟨h.kp.trans k.kp (fun i hi ht => by
    rcases ht with ht | ht | ht
    · exact .inl ht
    · rcases h.own i ht.symm with h1 | h1
      · exact .inr (.inl h1.symm)
      · omega
    · exact .inr (.inr ht)), fun i hi => by
    rcases k.own i hi with h1 | h1
    · exact h.own i h1
    · exact .inr (Nat.le_trans h.kp.size h1)⟩
theorem Stp.mono {X Y : Nat → Prop} {g : Nat} {W W1 : World} {v v1 : Value} (h : Stp X g W v W1 v1) (hX : ∀ i, i < W.heap.size → X i → Y i) : Stp Y g W v W1 v1 :=
  ⟨h.kp.mono (fun i hi hs => by
    rcases hs with h1 | h1 | h1
    · exact .inl h1
    · exact .inr (.inl h1)
    · exact .inr (.inr (hX i hi h1))), h.own⟩
theorem Stp.set {X : Nat → Prop} {g i : Nat} {W W1 : World} {v v1 : Value} (h : Stp X g W v W1 v1) (u : Value) : Stp X g W v (W1.setCell ⟨g, i, none⟩ u) v1 := ⟨h.kp.set (.inl rfl) u, h.own⟩
theorem Stp.drewN {X : Nat → Prop} {g : Nat} {W W1 : World} {v v1 : Value} (h : Stp X g W v W1 v1) (n : Nat) : Stp X g W v (W1.drewN n) v1 := ⟨h.kp.drewN n, h.own⟩
theorem Stp.drew {X : Nat → Prop} {g : Nat} {W W1 : World} {v v1 : Value} (h : Stp X g W v W1 v1) : Stp X g W v W1.drew v1 := ⟨h.kp.drew, h.own⟩
theorem Stp.alloc {X : Nat → Prop} {g : Nat} {W W1 : World} {v v1 : Value} (h : Stp X g W v W1 v1) (o : Obj) : Stp X g W v (W1.alloc o) v1 := ⟨h.kp.alloc o, h.own⟩

section
variable {W : World} {g base : Nat} {s : ByteArray} {p : Nat} {o : List Nd} {c a : Int} {v : Value}
theorem Sc.reads (h : Sc W g base s p o c a v) : W.cell? ⟨g, 0, none⟩ = some (.string s) ∧ W.cell? ⟨g, 1, none⟩ = some (.int .i64 (p : Int)) ∧ W.cell? ⟨g, 2, none⟩ = some v ∧ W.cell? ⟨g, 3, none⟩ = some (.int .i64 c) ∧ W.cell? ⟨g, 4, none⟩ = some (.int .i64 a) :=
  ⟨(blk_cell h.blk 0).trans rfl, (blk_cell h.blk 1).trans rfl, (blk_cell h.blk 2).trans rfl, (blk_cell h.blk 3).trans rfl, (blk_cell h.blk 4).trans rfl⟩
theorem Sc.frz (h : Sc W g base s p o c a v) (i : Nat) : W.frozen? ⟨g, i, none⟩ = false := blk_frozen h.blk i
theorem Sc.far (h : Sc W g base s p o c a v) : some g ≠ v.ownBlock := by
  intro e
  rcases h.out.2 with ⟨rfl, _⟩ | ⟨b, cap, cur, rfl, _, hb, _⟩
  · cases e
  · simp only [Value.ownBlock, Option.some.injEq] at e
    subst e
    rw [h.blk] at hb
    simp at hb
/-- A block of another kind is none of the nodes'. -/
theorem Sc.apart (h : Sc W g base s p o c a v) {b : Nat} {ob : Obj} (hb : W.heap[b]? = some ob) (ht : ∀ cs t f, ob = .cells cs t f → t ≠ 45) : some b ≠ v.ownBlock := by
  intro e
  rcases h.out.2 with ⟨rfl, _⟩ | ⟨b', cap, cur, rfl, _, hb', _⟩
  · cases e
  · simp only [Value.ownBlock, Option.some.injEq] at e
    subst e
    rw [hb] at hb'
    exact ht _ _ _ (Option.some.inj hb') rfl
theorem own_same {W' : World} (h : W.ownsRow base 45 4 v o.length (encs o)) (hk : ∀ k, v.ownBlock = some k → W'.heap[k]? = W.heap[k]?) : W'.ownsRow base 45 4 v o.length (encs o) := by
  refine ⟨h.1, ?_⟩
  rcases h.2 with h1 | ⟨b, cap, cur, rfl, hb, hh, r⟩
  · exact .inl h1
  · exact .inr ⟨b, cap, cur, rfl, hb, (hk b rfl).trans hh, r⟩
theorem Sc.drewN (h : Sc W g base s p o c a v) (n : Nat) : Sc (W.drewN n) g base s p o c a v := ⟨h.blk, own_same h.out (fun _ _ => rfl), h.le, h.ge⟩
theorem Sc.drew (h : Sc W g base s p o c a v) : Sc W.drew g base s p o c a v := ⟨h.blk, own_same h.out (fun _ _ => rfl), h.le, h.ge⟩
theorem Sc.below (h : Sc W g base s p o c a v) {W' : World} (hb : Below W.heap.size W W') : Sc W' g base s p o c a v :=
  ⟨blk_below h.blk hb, own_same h.out (fun k hk => hb.block k (by
    rcases h.out.2 with ⟨rfl, _⟩ | ⟨b, cap, cur, rfl, _, hh, _⟩
    · cases hk
    · simp only [Value.ownBlock, Option.some.injEq] at hk; subst hk; exact blk_lt hh)), h.le, h.ge⟩
theorem Sc.alloc (h : Sc W g base s p o c a v) (ob : Obj) : Sc (W.alloc ob) g base s p o c a v := h.below (below_alloc (Below.refl _ W) ob)
/-- A store elsewhere. -/
theorem Sc.other (h : Sc W g base s p o c a v) {b i : Nat} (hb : b ≠ g) (hv : some b ≠ v.ownBlock) (u : Value) : Sc (W.setCell ⟨b, i, none⟩ u) g base s p o c a v :=
  ⟨blk_far h.blk (Ne.symm hb) u, own_same h.out (fun k hk => Below.heap_setCell W ⟨b, i, none⟩ u k (fun e => hv (by rw [hk]; exact congrArg some e.symm))), h.le, h.ge⟩
theorem Sc.own_far (h : Sc W g base s p o c a v) (i : Nat) (u : Value) : (W.setCell ⟨g, i, none⟩ u).ownsRow base 45 4 v o.length (encs o) :=
  own_same h.out (fun k hk => Below.heap_setCell W ⟨g, i, none⟩ u k (fun e => h.far (by rw [hk]; exact congrArg some e.symm)))
theorem Sc.at_ (h : Sc W g base s p o c a v) (q : Nat) (hq : q ≤ s.size) : Sc (W.setCell ⟨g, 1, none⟩ (.int .i64 (q : Int))) g base s q o c a v :=
  ⟨blk_put h.blk 1 _ rfl, h.own_far 1 _, hq, h.ge⟩
theorem Sc.fail (h : Sc W g base s p o c a v) (c' a' : Int) : Sc ((W.setCell ⟨g, 3, none⟩ (.int .i64 c')).setCell ⟨g, 4, none⟩ (.int .i64 a')) g base s p o c' a' v :=
  ⟨blk_put (blk_put h.blk 3 _ rfl) 4 _ rfl, own_same (h.own_far 3 (.int .i64 c')) (fun k hk => Below.heap_setCell _ ⟨g, 4, none⟩ _ k (fun e => h.far (by rw [hk]; exact congrArg some e.symm))), h.le, h.ge⟩
/-- A block of the caller's own that a method leaves as it was. -/
theorem Sc.keep (h : Sc W g base s p o c a v) {X : Nat → Prop} {W' : World} {v' : Value} (hs : Stp X g W v W' v') {b : Nat} {ob : Obj} (hb : W.heap[b]? = some ob) (hX : ¬ X b)
    (ht : ∀ cs t f, ob = .cells cs t f → t ≠ 45 ∧ t ≠ 35) : W'.heap[b]? = some ob := by
  rw [hs.kp.block b (blk_lt hb) ?_]
  · exact hb
  · rintro (rfl | h1 | h1)
    · rw [h.blk] at hb
      exact (ht _ _ _ (Option.some.inj hb).symm).2 rfl
    · exact h.apart hb (fun cs t f e => (ht cs t f e).1) h1
    · exact hX h1
end
end Go.Proofs.YtkcfigfhbeohfaaGreatDoor.Tp
