/- The reference's reader in memory. -/
import Derived.Test.YtkcfigfhbeohfaaGreatDoorTpw
namespace Go.Proofs.YtkcfigfhbeohfaaGreatDoor.Tp
open Go Go.RowKit Go.Proofs.YtkcfigfhbeohfaaGreatDoorW.PrintWords
/-- The reference's reader at block g: its text, where it stands, its nodes, its error. -/
structure Rd (W : World) (g base : Nat) (s : ByteArray) (p : Nat) (o : List Nd) (c a : Int) (v : Value) : Prop where
  blk : W.heap[g]? = some (.cells #[.string s, .int .i64 (p : Int), v, .int .i64 c, .int .i64 a] 40 (0, 0))
  out : W.ownsRow base 45 4 v o.length (encs o)
  le : p ≤ s.size + 1
  ge : base ≤ g
section
variable {W : World} {g base : Nat} {s : ByteArray} {p : Nat} {o : List Nd} {c a : Int} {v : Value}
theorem Rd.reads (h : Rd W g base s p o c a v) : W.cell? ⟨g, 0, none⟩ = some (.string s) ∧ W.cell? ⟨g, 1, none⟩ = some (.int .i64 (p : Int)) ∧ W.cell? ⟨g, 2, none⟩ = some v ∧ W.cell? ⟨g, 3, none⟩ = some (.int .i64 c) ∧ W.cell? ⟨g, 4, none⟩ = some (.int .i64 a) :=
  ⟨(blk_cell h.blk 0).trans rfl, (blk_cell h.blk 1).trans rfl, (blk_cell h.blk 2).trans rfl, (blk_cell h.blk 3).trans rfl, (blk_cell h.blk 4).trans rfl⟩
theorem Rd.frz (h : Rd W g base s p o c a v) (i : Nat) : W.frozen? ⟨g, i, none⟩ = false := blk_frozen h.blk i
theorem Rd.far (h : Rd W g base s p o c a v) : some g ≠ v.ownBlock := by
  intro e
  rcases h.out.2 with ⟨rfl, _⟩ | ⟨b, cap, cur, rfl, _, hb, _⟩
  · cases e
  · simp only [Value.ownBlock, Option.some.injEq] at e
    subst e
    rw [h.blk] at hb
    simp at hb
/-- A block of another kind is none of the nodes'. -/
theorem Rd.apart (h : Rd W g base s p o c a v) {b : Nat} {ob : Obj} (hb : W.heap[b]? = some ob) (ht : ∀ cs t f, ob = .cells cs t f → t ≠ 45) : some b ≠ v.ownBlock := by
  intro e
  rcases h.out.2 with ⟨rfl, _⟩ | ⟨b', cap, cur, rfl, _, hb', _⟩
  · cases e
  · simp only [Value.ownBlock, Option.some.injEq] at e
    subst e
    rw [hb] at hb'
    exact ht _ _ _ (Option.some.inj hb') rfl
theorem Rd.drewN (h : Rd W g base s p o c a v) (n : Nat) : Rd (W.drewN n) g base s p o c a v := ⟨h.blk, own_same h.out (fun _ _ => rfl), h.le, h.ge⟩
theorem Rd.drew (h : Rd W g base s p o c a v) : Rd W.drew g base s p o c a v := ⟨h.blk, own_same h.out (fun _ _ => rfl), h.le, h.ge⟩
theorem Rd.below (h : Rd W g base s p o c a v) {W' : World} (hb : Below W.heap.size W W') : Rd W' g base s p o c a v :=
  ⟨blk_below h.blk hb, own_same h.out (fun k hk => hb.block k (by
    rcases h.out.2 with ⟨rfl, _⟩ | ⟨b, cap, cur, rfl, _, hh, _⟩
    · cases hk
    · simp only [Value.ownBlock, Option.some.injEq] at hk; subst hk; exact blk_lt hh)), h.le, h.ge⟩
theorem Rd.alloc (h : Rd W g base s p o c a v) (ob : Obj) : Rd (W.alloc ob) g base s p o c a v := h.below (below_alloc (Below.refl _ W) ob)
/-- A store elsewhere. -/
theorem Rd.other (h : Rd W g base s p o c a v) {b i : Nat} (hb : b ≠ g) (hv : some b ≠ v.ownBlock) (u : Value) : Rd (W.setCell ⟨b, i, none⟩ u) g base s p o c a v :=
  ⟨blk_far h.blk (Ne.symm hb) u, own_same h.out (fun k hk => Below.heap_setCell W ⟨b, i, none⟩ u k (fun e => hv (by rw [hk]; exact congrArg some e.symm))), h.le, h.ge⟩
theorem Rd.own_far (h : Rd W g base s p o c a v) (i : Nat) (u : Value) : (W.setCell ⟨g, i, none⟩ u).ownsRow base 45 4 v o.length (encs o) :=
  own_same h.out (fun k hk => Below.heap_setCell W ⟨g, i, none⟩ u k (fun e => h.far (by rw [hk]; exact congrArg some e.symm)))
theorem Rd.at_ (h : Rd W g base s p o c a v) (q : Nat) (hq : q ≤ s.size + 1) : Rd (W.setCell ⟨g, 1, none⟩ (.int .i64 (q : Int))) g base s q o c a v :=
  ⟨blk_put h.blk 1 _ rfl, h.own_far 1 _, hq, h.ge⟩
theorem Rd.fail (h : Rd W g base s p o c a v) (c' a' : Int) : Rd ((W.setCell ⟨g, 3, none⟩ (.int .i64 c')).setCell ⟨g, 4, none⟩ (.int .i64 a')) g base s p o c' a' v :=
  ⟨blk_put (blk_put h.blk 3 _ rfl) 4 _ rfl, own_same (h.own_far 3 (.int .i64 c')) (fun k hk => Below.heap_setCell _ ⟨g, 4, none⟩ _ k (fun e => h.far (by rw [hk]; exact congrArg some e.symm))), h.le, h.ge⟩
/-- A block of the caller's own that a method leaves as it was. -/
theorem Rd.keep (h : Rd W g base s p o c a v) {X : Nat → Prop} {W' : World} {v' : Value} (hs : Stp X g W v W' v') {b : Nat} {ob : Obj} (hb : W.heap[b]? = some ob) (hX : ¬ X b)
    (ht : ∀ cs t f, ob = .cells cs t f → t ≠ 45 ∧ t ≠ 40) : W'.heap[b]? = some ob := by
  rw [hs.kp.block b (blk_lt hb) ?_]
  · exact hb
  · rintro (rfl | h1 | h1)
    · rw [h.blk] at hb
      exact (ht _ _ _ (Option.some.inj hb).symm).2 rfl
    · exact h.apart hb (fun cs t f e => (ht cs t f e).1) h1
    · exact hX h1
end
end Go.Proofs.YtkcfigfhbeohfaaGreatDoor.Tp
