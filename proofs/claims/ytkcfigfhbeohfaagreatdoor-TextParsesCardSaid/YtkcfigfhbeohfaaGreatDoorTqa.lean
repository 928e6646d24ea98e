/- The document's rows. -/
import Derived.Test.YtkcfigfhbeohfaaGreatDoorTpz
namespace Go.Proofs.YtkcfigfhbeohfaaGreatDoor.Tp
open Go Go.RowKit Go.Maps Go.Proofs.YtkcfigfhbeohfaaGreatDoorW.PrintWords
def exB : ByteArray := ⟨#[123, 34, 97, 34, 58, 91, 49, 44, 116, 114, 117, 101, 93, 125]⟩
def exO : List Nd := [⟨3, ⟨#[]⟩, 1, 0⟩, ⟨2, ⟨#[]⟩, 1, 0⟩, ⟨5, ⟨#[]⟩, 0, 2⟩, ⟨6, ⟨#[97]⟩, 0, 1⟩, ⟨7, ⟨#[]⟩, 0, 1⟩]
theorem ex1 : parsed exB.data.toList = .ok exO := by kernel_rfl
theorem ex2 : parsed [91, 49, 44, 93] = .error (10, 3) := by kernel_rfl
theorem ex3 : parsed [91, 48, 49, 93] = .error (10, 1) := by kernel_rfl
theorem ex4 : parsed [91, 49] = .error (11, 2) := by kernel_rfl
theorem ex5 : parsed [123, 34, 97, 34, 58, 49, 44, 34, 97, 34, 58, 50, 125] = .error (13, 7) := by kernel_rfl
theorem ex6 : quote [97, 34, 10] = some [34, 97, 92, 34, 92, 110, 34] := by kernel_rfl
theorem ex7 : num [45, 49, 48] = some (-10) := by kernel_rfl
theorem ex8 : num [48, 49] = none := by kernel_rfl
theorem PRes.okn {s : ByteArray} {W W' : World} {r : Ending} {o : List Nd} (hx : parsed s.data.toList = .ok o) {n : Nat} (hn : o.length = n + 1) (h : PRes s W r W') : ∃ g cap, r = .returned (.tuple #[.slice (some ⟨g, 0, none⟩) (n + 1) cap, .agg #[.int .i64 0, .int .i64 0]]) ∧ Row W' g o ∧ g < W'.heap.size ∧ Below W.heap.size W W' ∧ W.heap.size ≤ g := by
  obtain ⟨a, cap, h1, h2, h3⟩ := h.ok hx
  rw [hn] at h1 h2
  rcases h2.2 with ⟨_, h4⟩ | ⟨g, cap', cur, h4, h5, h6, _, _, h9, h10⟩
  · omega
  · injection h4 with h4 _ h4'
    subst h4; subst h4'
    refine ⟨g, cap, h1, fun i hi => ?_, blk_lt h6, h3, h5⟩
    rw [Lib.cell_of_heap h6, ← h10, List.getElem?_take_of_lt (by omega), Array.getElem?_toList]
theorem same_n (W : World) (o : List Nd) (n b1 b2 c1 c2 : Nat) (hn : o.length = n) (h1 : Row W b1 o) (h2 : Row W b2 o) (hl : o.length ≤ 4294967296) :
    Calls Tryz.prog 7 #[.slice (some ⟨b1, 0, none⟩) n c1, .slice (some ⟨b2, 0, none⟩) n c2] W fun e W' => e = .returned (.bool true) ∧ ∃ n, W' = W.drewN n := by subst hn; exact same_calls W o b1 b2 c1 c2 h1 h2 hl
theorem Row.below {W W' : World} {b : Nat} {o : List Nd} (h : Row W b o) {B : Nat} (hb : Below B W W') (hB : b < B) : Row W' b o := fun i hi => by
  rw [← h i hi]; exact hb.cell (p := ⟨b, i, none⟩) hB
structure Ex (W : World) (f g1 g2 : Nat) (o : List Nd) : Prop where
  fail : W.heap[f]? = some (.cells #[.int .i64 0, .int .i64 0] 26 (0, 0))
  r1 : Row W g1 o
  r2 : Row W g2 o
  l1 : g1 < W.heap.size
  l2 : g2 < W.heap.size
theorem Ex.below {W W' : World} {f g1 g2 : Nat} {o : List Nd} (h : Ex W f g1 g2 o) (hb : Below W.heap.size W W') : Ex W' f g1 g2 o :=
  ⟨blk_below h.fail hb, h.r1.below hb h.l1, h.r2.below hb h.l2, Nat.lt_of_lt_of_le h.l1 hb.size, Nat.lt_of_lt_of_le h.l2 hb.size⟩
theorem Ex.reads {W : World} {f g1 g2 : Nat} {o : List Nd} (h : Ex W f g1 g2 o) : W.cell? ⟨f, 0, none⟩ = some (.int .i64 0) ∧ W.cell? ⟨f, 1, none⟩ = some (.int .i64 0) := ⟨(blk_cell h.fail 0).trans rfl, (blk_cell h.fail 1).trans rfl⟩
/-- A literal row laid behind a Fail. -/
theorem Ex.made (W : World) (g : Nat) (o : List Nd) (h : Row W g o) (hg : g < W.heap.size) (cs : Array Value) (hc : cs.toList = encs o) :
    Ex ((W.alloc (.cells #[.int .i64 0, .int .i64 0] 26)).alloc (.cells cs 45)) W.heap.size g (W.heap.size + 1) o := by
  have hb : Below W.heap.size W ((W.alloc (.cells #[.int .i64 0, .int .i64 0] 26)).alloc (.cells cs 45)) := ((Below.refl _ W).alloc (Nat.le_refl _) _).alloc (by simp) _
  refine ⟨blk_alloc (blk_new W _) _, h.below hb hg, fun i hi => ?_, by simp; omega, by simp⟩
  have hn := blk_new (W.alloc (.cells #[.int .i64 0, .int .i64 0] 26)) (.cells cs 45)
  rw [World.size_alloc] at hn
  refine (blk_cell hn i).trans ?_
  rw [← hc, Array.getElem?_toList]
theorem quote_ex (W : World) : Calls Tryz.prog 15 #[.string ⟨#[97, 34, 10]⟩] W fun e W' => e = .returned (.tuple #[.string ⟨#[34, 97, 92, 34, 92, 110, 34]⟩, .bool true]) ∧ Below W.heap.size W W' := by
  refine (quote_calls W ⟨#[97, 34, 10]⟩ (by decide)).mono ?_
  rw [show quote (⟨#[97, 34, 10]⟩ : ByteArray).data.toList = some [34, 97, 92, 34, 92, 110, 34] from ex6]
  exact fun _ _ h => h
theorem new_at (W : World) (o : Obj) : (W.alloc o).heap[W.heap.size]? = some o := by
  show (W.heap.push o)[W.heap.size]? = _
  simp
theorem fails_ex0 (W : World) : Calls Tryz.prog 17 #[.string ⟨#[91, 49, 44, 93]⟩, .int .i64 10, .int .i64 3] W fun e W' => e = .returned (.bool true) ∧ Below W.heap.size W W' := fails_calls W ⟨#[91, 49, 44, 93]⟩ 10 3 (by decide) ex2
theorem fails_ex1 (W : World) : Calls Tryz.prog 17 #[.string ⟨#[91, 48, 49, 93]⟩, .int .i64 10, .int .i64 1] W fun e W' => e = .returned (.bool true) ∧ Below W.heap.size W W' := fails_calls W ⟨#[91, 48, 49, 93]⟩ 10 1 (by decide) ex3
theorem fails_ex2 (W : World) : Calls Tryz.prog 17 #[.string ⟨#[91, 49]⟩, .int .i64 11, .int .i64 2] W fun e W' => e = .returned (.bool true) ∧ Below W.heap.size W W' := fails_calls W ⟨#[91, 49]⟩ 11 2 (by decide) ex4
theorem fails_ex3 (W : World) : Calls Tryz.prog 17 #[.string ⟨#[123, 34, 97, 34, 58, 49, 44, 34, 97, 34, 58, 50, 125]⟩, .int .i64 13, .int .i64 7] W fun e W' => e = .returned (.bool true) ∧ Below W.heap.size W W' := fails_calls W ⟨#[123, 34, 97, 34, 58, 49, 44, 34, 97, 34, 58, 50, 125]⟩ 13 7 (by decide) ex5
theorem ex_made (W : World) (g : Nat) (h : Row W g exO) (hg : g < W.heap.size) :
    Ex ((W.alloc (.cells #[.int .i64 0, .int .i64 0] 26)).alloc (.cells #[.int .i64 3, .string ⟨#[]⟩, .int .i64 1, .int .i64 0, .int .i64 2, .string ⟨#[]⟩, .int .i64 1, .int .i64 0, .int .i64 5, .string ⟨#[]⟩, .int .i64 0, .int .i64 2, .int .i64 6, .string ⟨#[97]⟩, .int .i64 0, .int .i64 1, .int .i64 7, .string ⟨#[]⟩, .int .i64 0, .int .i64 1] 45)) W.heap.size g (W.heap.size + 1) exO := Ex.made W g exO h hg _ (by kernel_rfl)
theorem number_ex1 (W : World) : Calls Tryz.prog 16 #[.string ⟨#[45, 49, 48]⟩] W fun e W' => e = .returned (.tuple #[.int .i64 (-10), .bool true]) ∧ Below W.heap.size W W' := number_some ⟨#[45, 49, 48]⟩ (-10) W (by decide) ex7
theorem number_ex2 (W : World) : Calls Tryz.prog 16 #[.string ⟨#[48, 49]⟩] W fun e W' => e = .returned (.tuple #[.int .i64 0, .bool false]) ∧ Below W.heap.size W W' := number_none ⟨#[48, 49]⟩ W (by decide) ex8
set_option maxHeartbeats 8000000 in
set_option maxRecDepth 100000 in
theorem parses_calls (W : World) : Calls Tryz.prog 6 #[] W fun e W' => e = .returned (.bool true) ∧ Below W.heap.size W W' := by
  have kc := fun (w : World) (C : Array Value) (n c : Nat) => Lib.run_convert_bytes_const (P := Tryz.prog) w 22 5 C n c Tryz.underlying22 Tryz.underlying5
  obtain ⟨W1, hW1⟩ : ∃ W1, W.alloc (.cells #[.int .u8 123, .int .u8 34, .int .u8 97, .int .u8 34, .int .u8 58, .int .u8 91, .int .u8 49, .int .u8 44, .int .u8 116, .int .u8 114, .int .u8 117, .int .u8 101, .int .u8 93, .int .u8 125] 5 (14, 15)) = W1 := ⟨_, rfl⟩
  have k1 := kc W #[.int .u8 123, .int .u8 34, .int .u8 97, .int .u8 34, .int .u8 58, .int .u8 91, .int .u8 49, .int .u8 44, .int .u8 116, .int .u8 114, .int .u8 117, .int .u8 101, .int .u8 93, .int .u8 125] 14 14
  rw [show (#[Value.int .u8 123, .int .u8 34, .int .u8 97, .int .u8 34, .int .u8 58, .int .u8 91, .int .u8 49, .int .u8 44, .int .u8 116, .int .u8 114, .int .u8 117, .int .u8 101, .int .u8 93, .int .u8 125]).size = 14 from rfl, hW1] at k1
  have hs1 : W1.heap.size = W.heap.size + 1 := by rw [← hW1]; simp
  have hbl : Lib.Bytes W1 W.heap.size 0 exB := by
    intro i hi
    rw [← hW1, Nat.zero_add]
    refine (Lib.cell_of_heap (new_at W _) i).trans ?_
    have : i < 14 := hi
    rcases i with _|_|_|_|_|_|_|_|_|_|_|_|_|_|i <;> first | rfl | omega
  have C1 := Lib.hid (parse_at W1 W.heap.size 14 exB hbl (by omega) (by decide))
  have E1 : Hid (Below W.heap.size W W1) := Lib.hid (by rw [← hW1]; exact (Below.refl _ W).alloc (Nat.le_refl _) _)
  have HS1 := Lib.hid hs1
  clear kc hW1 hs1 hbl
  go_enter Tryz.func6, Tryz.ntmps6
  go_wp2_with (first | (go_at_call 4; refine C1.out.mono ?_; intro e1 W2 hR; obtain ⟨g2, cap2, rfl, ho, hg, hb1, hbg⟩ := hR.okn ex1 (n := 4) rfl; have O2 := Lib.hid (ex_made W2 g2 ho hg); have E2 := Lib.hid (E1.out.trans (hb1.mono (by have := HS1.out; omega))); clear hR ho hb1 hg hbg) | (go_at_call 15; with_reducible refine (quote_ex _).mono ?_; rintro e1 W4 ⟨rfl, hb⟩; have O4 := Lib.hid (O2.out.below hb); have E4 := Lib.hid ((((E2.out.alloc E2.out.size _).alloc (by rw [World.size_alloc]; have := E2.out.size; omega) _)).trans (hb.mono (by rw [World.size_alloc, World.size_alloc]; have := E2.out.size; omega))); clear hb) | (go_at_call 16; with_reducible refine (number_ex1 _).mono ?_; rintro e1 W5 ⟨rfl, hb⟩; have O5 := Lib.hid (O4.out.below hb); have E5 := Lib.hid (E4.out.trans (hb.mono E4.out.size)); clear hb) | (go_at_call 16; with_reducible refine (number_ex2 _).mono ?_; rintro e1 W6 ⟨rfl, hb⟩; have O6 := Lib.hid (O5.out.below hb); have E6 := Lib.hid (E5.out.trans (hb.mono E5.out.size)); obtain ⟨k0, k1⟩ := O6.out.reads; clear hb) | (go_at_call 7; with_reducible refine (same_n _ exO 5 g2 (W2.heap.size + 1) cap2 5 rfl O6.out.r1 O6.out.r2 (by decide)).mono ?_; rintro e1 W7 ⟨rfl, n7, hn7⟩; have E7 : Hid (Below W.heap.size W W7) := Lib.hid (by rw [hn7]; exact belN E6.out _); clear hn7) | (go_at_call 17; with_reducible refine (fails_ex0 _).mono ?_; rintro e1 W8 ⟨rfl, hb⟩; have E8 := Lib.hid (E7.out.trans (hb.mono E7.out.size)); clear hb) | (go_at_call 17; with_reducible refine (fails_ex1 _).mono ?_; rintro e1 W9 ⟨rfl, hb⟩; have E9 := Lib.hid (E8.out.trans (hb.mono E8.out.size)); clear hb) | (go_at_call 17; with_reducible refine (fails_ex2 _).mono ?_; rintro e1 W10 ⟨rfl, hb⟩; have E10 := Lib.hid (E9.out.trans (hb.mono E9.out.size)); clear hb) | (go_at_call 17; with_reducible refine (fails_ex3 _).mono ?_; rintro e1 W11 ⟨rfl, hb⟩; have E11 := Lib.hid (E10.out.trans (hb.mono E10.out.size)); clear hb))
  go_ret
  exact ⟨rfl, E11.out⟩
end Go.Proofs.YtkcfigfhbeohfaaGreatDoor.Tp
