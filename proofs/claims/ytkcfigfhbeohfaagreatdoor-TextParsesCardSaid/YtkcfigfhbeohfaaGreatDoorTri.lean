/- The reader's escaped; rows of one's own beside the reader. -/
import Derived.Test.YtkcfigfhbeohfaaGreatDoorTrh
namespace Go.Proofs.YtkcfigfhbeohfaaGreatDoor.Tp
open Go Go.RowKit Go.Maps Go.Proofs.YtkcfigfhbeohfaaGreatDoorW.PrintWords
/-- What stands for a byte behind a stroke; 0: nothing does. -/
def escB (c : UInt8) : UInt8 := if c = 34 ∨ c = 92 then c else if c = 110 then 10 else 0
set_option maxRecDepth 100000 in
set_option maxHeartbeats 2000000 in
theorem escaped_calls (c : UInt8) (W : World) : Calls Tryz.prog 52 #[.int .u8 (c.toNat : Int)] W fun e W' => e = .returned (.int .u8 ((escB c).toNat : Int)) ∧ W' = W := by
  by_cases h1 : c = 34
  · subst h1
    go_enter Tryz.func52, Tryz.ntmps52
    go_wp2_with fail
    go_ret
    exact ⟨rfl, rfl⟩
  · have t1 : ((c.toNat : Int) == 34) = false := u8_ne (y := 34) h1
    by_cases h2 : c = 92
    · subst h2
      go_enter Tryz.func52, Tryz.ntmps52
      go_wp2_with fail
      go_ret
      exact ⟨rfl, rfl⟩
    · have t2 : ((c.toNat : Int) == 92) = false := u8_ne (y := 92) h2
      by_cases h3 : c = 110
      · subst h3
        go_enter Tryz.func52, Tryz.ntmps52
        go_wp2_with fail
        go_ret
        exact ⟨rfl, rfl⟩
      · have t3 : ((c.toNat : Int) == 110) = false := u8_ne (y := 110) h3
        have HE := Lib.hid (show escB c = 0 by unfold escB; rw [if_neg (by simp [h1, h2]), if_neg h3])
        clear h1 h2 h3
        go_enter Tryz.func52, Tryz.ntmps52
        go_wp2_with fail
        go_ret
        exact ⟨by rw [HE.out]; rfl, rfl⟩
section
variable {W : World} {g base : Nat} {s : ByteArray} {p : Nat} {o : List Nd} {c a : Int} {v : Value}
theorem Rd.belowB (h : Rd W g base s p o c a v) {B : Nat} {W' : World} (hb : Below B W W') (hg : g < B) (hv : ∀ k, v.ownBlock = some k → k < B) : Rd W' g base s p o c a v :=
  ⟨(hb.block _ hg).trans h.blk, own_same h.out (fun k hk => hb.block k (hv k hk)), h.le, h.ge⟩
theorem Rd.own_lt (h : Rd W g base s p o c a v) : ∀ k, v.ownBlock = some k → k < W.heap.size := by
  intro k hk
  rcases h.out.2 with ⟨rfl, _⟩ | ⟨b, cap, cur, rfl, _, hh, _⟩
  · cases hk
  · simp only [Value.ownBlock, Option.some.injEq] at hk; subst hk; exact blk_lt hh
/-- A row of one's own, of another kind than the nodes, stays as it is. -/
theorem Rd.keepRow (h : Rd W g base s p o c a v) {X : Nat → Prop} {W' : World} {v' : Value} (hs : Stp X g W v W' v') {B t size n : Nat} {vo : Value} {xs : List Value} (ho : W.ownsRow B t size vo n xs)
    (hX : ∀ k, vo.ownBlock = some k → ¬ X k) (ht : t ≠ 45 ∧ t ≠ 40) : W'.ownsRow B t size vo n xs := by
  refine ⟨ho.1, ?_⟩
  rcases ho.2 with h1 | ⟨b, cap, cur, rfl, hb, hh, r⟩
  · exact .inl h1
  · exact .inr ⟨b, cap, cur, rfl, hb, h.keep hs hh (hX b rfl) (fun cs t' f e => by cases e; exact ht), r⟩
/-- A row of one's own, of another kind than the reader, stays while the reader is stored into. -/
theorem Rd.setRow (h : Rd W g base s p o c a v) {B t size n : Nat} {vo : Value} {xs : List Value} (ho : W.ownsRow B t size vo n xs) (ht : t ≠ 40) (i : Nat) (u : Value) : (W.setCell ⟨g, i, none⟩ u).ownsRow B t size vo n xs := by
  refine ⟨ho.1, ?_⟩
  rcases ho.2 with h1 | ⟨b, cap, cur, rfl, hb, hh, r⟩
  · exact .inl h1
  · refine .inr ⟨b, cap, cur, rfl, hb, blk_far hh ?_ u, r⟩
    rintro rfl
    rw [h.blk] at hh
    cases hh
    exact ht rfl
/-- What grows one's own row of another kind leaves the reader. -/
theorem Rd.grownRow (h : Rd W g base s p o c a v) {W' : World} {B t size n : Nat} {vo : Value} {xs : List Value} (ho : W.ownsRow B t size vo n xs) (ht : t ≠ 45 ∧ t ≠ 40) (hg : W.grownBy W' vo.ownBlock) : Rd W' g base s p o c a v := by
  have hne : ∀ k ob, W.heap[k]? = some ob → (∀ cs t' f, ob = .cells cs t' f → t' ≠ t) → some k ≠ vo.ownBlock := by
    intro k ob hk hno e
    rcases ho.2 with ⟨rfl, _⟩ | ⟨b, cap, cur, rfl, _, hh, _⟩
    · cases e
    · simp only [Value.ownBlock, Option.some.injEq] at e
      subst e
      rw [hh] at hk
      exact hno _ _ _ (Option.some.inj hk).symm rfl
  refine ⟨(hg.block g (blk_lt h.blk) (hne g _ h.blk (fun cs t' f e => by cases e; exact fun e => ht.2 e.symm))).trans h.blk, own_same h.out (fun k hk => ?_), h.le, h.ge⟩
  rcases h.out.2 with ⟨rfl, _⟩ | ⟨b, cap, cur, rfl, _, hh, _⟩
  · cases hk
  · simp only [Value.ownBlock, Option.some.injEq] at hk
    subst hk
    exact hg.block b (blk_lt hh) (hne b _ hh (fun cs t' f e => by cases e; exact fun e => ht.1 e.symm))
theorem bytesRow_string {B : Nat} {vo : Value} {acc : List UInt8} (h : W.ownsRow B 5 1 vo acc.length (Lib.byteCells acc)) : (convert 22 9 vo).run Tryz.prog W = .ok (.string ⟨acc.toArray⟩) W := by
  rcases h.2 with ⟨rfl, h0⟩ | ⟨b, cap, cur, rfl, _, hh, _, _, hsz, htk⟩
  · have : acc = [] := List.eq_nil_of_length_eq_zero h0
    subst this
    exact run_convert_bytes_nil W 22 5 Tryz.underlying22 Tryz.underlying5 0 0 9 Tryz.underlying9
  · refine run_convert_bytes_back (P := Tryz.prog) W 22 9 5 _ cap acc Tryz.underlying22 Tryz.underlying5 Tryz.underlying9 (fun j hj => ?_)
    have hc : W.cell? ⟨b, j, none⟩ = some (.int .u8 (acc[j].toNat : Int)) := by
      refine (blk_cell hh j).trans ?_
      have h1 : (cur.toList.take (acc.length * 1))[j]? = (Lib.byteCells acc)[j]? := by rw [htk]
      rw [List.getElem?_take_of_lt (by omega), Array.getElem?_toList] at h1
      rw [h1]
      simp [Lib.byteCells, List.getElem?_eq_getElem hj]
    unfold Addr.add
    split
    · rename_i h0; subst h0; exact hc
    · rw [Nat.zero_add]; exact hc
end
theorem info_u8 : (Tryz.prog.info? 5).map (fun i => (i.zero, i.size, i.bytes)) = some (some (.int .u8 0), 1, 1) := by kernel_rfl
theorem info_string : (Tryz.prog.info? 9).map (fun i => (i.zero, i.size, i.bytes)) = some (some (.string ⟨#[]⟩), 1, 16) := by kernel_rfl
end Go.Proofs.YtkcfigfhbeohfaaGreatDoor.Tp
