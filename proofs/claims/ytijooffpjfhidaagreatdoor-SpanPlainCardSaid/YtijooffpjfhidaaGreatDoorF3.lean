/- Texts that the claims' laws stand on, put together by a program of this session (wip/prune.py): printed functions, their walks, and plain lemmas. -/
import Derived.Lib.Hide
import Derived.Sort.CutIn
import Derived.Lib.ItoaNum
import Derived.Lib.IndexLaws
import Derived.Test.YtijooffpjfhidaaGreatDoorRows
import Derived.Lib.LaidU8
import Derived.MakeChecks
import Derived.LaidMore
import Derived.OpenShut
import Derived.Handed
import Derived.HandedShaped
import Derived.Shelf.Vars
import Derived.Lib.SmallJoins
import Derived.WalkKit
import Derived.ProofKit
import Derived.ShutString
import Derived.ChangeOld
import Derived.SizedLaws
import Derived.Test.YtijooffpjfhidaaGreatDoorF2
set_option linter.unusedVariables false
set_option linter.unusedSimpArgs false
section
namespace Go.Proofs.YtijooffpjfhidaaGreatDoor.G
open Go.RowKit Go.Proofs.YtijooffpjfhidaaGreatDoorW.PrintWords Go.Proofs.YtijooffpjfhidaaGreatDoorW.PrintLast Go.Proofs.YtijooffpjfhidaaGreatDoorW.PrintMore
attribute [local go_sem] Go.Proofs.YtijooffpjfhidaaGreatDoor.Aid.gtr_string max2_int min2_int max_two min_two max_three min_three max_four min_four
set_option linter.unusedVariables false
set_option linter.unusedSimpArgs false
def span_Parse.sg (s : ByteArray) : List (Int × ByteArray) → Int → ByteArray → Option (Int × ByteArray)
  | [], op, rest => some (op, rest)
  | x :: xs, op, rest => (strings_CutPrefix.f s x.2).bind fun c => if c.2 = true then (if rest = s then span_Parse.sg s xs x.1 c.1 else span_Parse.sg s xs op rest) else span_Parse.sg s xs op rest
def span_Parse.wide (s : ByteArray) (t : Bool) : Bool := t || decide (bt s 0 = 94)
def span_Parse.word (k : Nat) (s : ByteArray) : Option (List S45 × Bool) :=
  if s.toList.isEmpty = true then some ([], true) else if s = ⟨#[42]⟩ then some ([], true) else
  (strings_HasPrefix.f s ⟨#[126]⟩).bind fun t =>
    (span_Parse.sg s span_Print.signs (if span_Parse.wide s t = true then 5 else 1) (if span_Parse.wide s t = true then s.extract 1 s.size else s)).bind fun o => (version_Parse.f k o.2).bind fun v => if v.2.2.2.2 = false then some ([], false) else
      if span_Parse.wide s t = true then (span_above.f v.1 v.2.1 v.2.2.1 v.2.2.2.1 t).bind fun n => some ([⟨o.1, ⟨v.1, v.2.1, v.2.2.1, v.2.2.2.1⟩⟩, ⟨2, ⟨n.1, n.2.1, n.2.2.1, n.2.2.2⟩⟩], true)
      else some ([⟨o.1, ⟨v.1, v.2.1, v.2.2.1, v.2.2.2.1⟩⟩], true)
def span_Parse.read (k : Nat) : List ByteArray → List S45 → Option (List S45 × Bool)
  | [], acc => some (acc, true)
  | s :: ws, acc => if acc.length < 1000000 then (span_Parse.word k s).bind fun o => if o.2 = false then some ([], false) else span_Parse.read k ws (acc ++ o.1) else none
def span_Parse.go (k : Nat) : List ByteArray → List (List S45) → Option (List (List S45) × Bool)
  | [], all => (span_right.f k all).bind fun g => if g = true then some (all, true) else some ([], false)
  | p :: ps, all => if p.size ≤ 140737488355328 then (if all.length < 1000000 then (span_Parse.read k (Go.Proofs.YtijooffpjfhidaaGreatDoor.Seq.cutsL 32 p) []).bind fun o => if o.2 = false then some ([], false) else span_Parse.go k ps (all ++ [o.1]) else none) else none
def span_Parse.f (k : Nat) (a0 : ByteArray) : Option (List (List S45) × Bool) := if a0.size ≤ 4294967280 then span_Parse.go k (Go.Proofs.YtijooffpjfhidaaGreatDoor.Seq.cutsD a0) [] else none
section
open Lib Go.Proofs.YtijooffpjfhidaaGreatDoor.Rng Go.Proofs.YtijooffpjfhidaaGreatDoor.Seq Go.Proofs.YtijooffpjfhidaaGreatDoor.App
theorem span_Parse.fh {acc : List S45} {W w1 : World} {B base : Nat} {u v1 : Value} {o : Obj} (hb : Boxed W B 38 u) (hR : Kd.R k45 45 W base (fun _ => True) u acc)
    (hg : (W.alloc o).grownBy w1 u.ownBlock) (hbase : base ≤ W.heap.size) : Fh 45 B base W (w1.setCell ⟨B, 0, none⟩ v1) := by
  have h1 := hg.size
  rw [World.size_alloc] at h1
  have hown := (Kd.R_own hR)
  have hat : ∀ k, k < W.heap.size → k ≠ B → some k ≠ u.ownBlock → (w1.setCell ⟨B, 0, none⟩ v1).heap[k]? = W.heap[k]? := fun k hk hB hn =>
    (Below.heap_setCell w1 ⟨B, 0, none⟩ v1 k hB).trans ((hg.block k (by rw [World.size_alloc]; omega) hn).trans (Below.heap_alloc W o k hk))
  refine ⟨hg.os, hg.tape, hg.output, ?_, fun k hk hB hl => hat k hl hB (fun e => ?_), fun k o' hB ho hr => (hat k (Array.getElem?_eq_some_iff.1 ho).1 hB (fun e => ?_)).trans ho⟩
  · exact Nat.le_trans (by omega) (KeepsWalks.setCell w1 ⟨B, 0, none⟩ v1).size
  · have := Kd.R_base hR k e.symm; omega
  · obtain ⟨_, h2⟩ := hown
    obtain ⟨cells, hc⟩ := own_typed h2 k e.symm
    rw [hc] at ho; cases ho; simp [isRow] at hr
set_option maxRecDepth 100000 in
set_option maxHeartbeats 4000000 in
theorem span_Parse.hand (op x y z : Int) (s : ByteArray) (acc : List S45) (W : World) (B base : Nat) (u : Value) (hb : Boxed W B 38 u) (hR : Kd.R k45 45 W base (fun _ => True) u acc)
    (hB : B < base) (hbase : base ≤ W.heap.size) (hl : acc.length < 2000000) :
    Calls Tryz.prog 25 #[.int .i64 op, .agg #[.int .i64 x, .int .i64 y, .int .i64 z, .string s], .pointer (some ⟨B, 0, none⟩)] W fun e w' => (∃ q, e = .returned q) ∧
      (∃ u', Boxed w' B 38 u' ∧ Kd.R k45 45 w' base (fun _ => True) u' (acc ++ [⟨op, ⟨x, y, z, s⟩⟩])) ∧ Fh 45 B base W w' := by
  obtain ⟨A, c, rfl⟩ := Kd.R_slice hR
  have hc := hb.cell
  have hf := hb.frozen
  have hlt := hb.lt
  have HB := Lib.hid hb
  have HR := Lib.hid hR
  have LM := Lib.hid hl
  have hu := Tryz.underlying35
  clear hb hR hl
  go_enter Tryz.func25, Tryz.ntmps25
  go_wp2_with (first | ((with_reducible refine gate_builtin (b := .append) (xs := #[.tmp 5, .tmp 9]) rfl ?_); at_builtin; refine Kd.R_append k45 (w0 := W) base ?a1 (.tmp 5) (.tmp 9) 38 45 (.agg #[(.int .i64 0), (.int .i64 0), (.int .i64 0), (.int .i64 0), (.string ⟨#[]⟩)]) 48 ?a2 ?a3 ?a4 ?a5 ?a6 ?a7 (.slice A acc.length c) acc ⟨op, ⟨x, y, z, s⟩⟩ [.int .i64 op, .int .i64 x, .int .i64 y, .int .i64 z, .string s] (fun _ => True) (fun _ => False) ?aY ?aX ?aP ?aK ?aF ?aO ?aB ?aS ?aL ?_; (case a1 => rfl); (case a2 => rfl); (case a3 => exact Tryz.underlying38); (case a4 => exact info45); (case a5 => rfl); (case a6 => decide); (case a7 => decide); (case aK => exact fun _ hk => hk.elim); (case aY => rfl); (case aX => first | rfl | (rw [World.size_alloc]; rfl)); (case aP => exact k45_mkM _ _ _ _); (case aB => exact (Below.refl _ W).alloc hbase _); (case aF => exact (fun _ _ => trivial)); (case aO => exact Kd.R_alloc HR.out _); (case aS => rw [World.size_alloc]; omega); (case aL => have := LM.out; omega); intro v1 w1 ho hb1 hg hat; have hne : some B ≠ (Value.slice A acc.length c).ownBlock := Kd.R_ne HR.out HB.out (by decide); have hbw := (HB.out.alloc (Obj.cells #[.int .i64 x, .int .i64 y, .int .i64 z, .string s] 35)).kept hg hne; have HW := Lib.hid hbw; have hc1 := hbw.cell; have hf1 := hbw.frozen; obtain ⟨A1, c1, rfl⟩ := Kd.R_slice ho; have HO := Lib.hid ho; have HG := Lib.hid hg; have HNE := Lib.hid hne; clear ho hb1 hg hat hne hbw))
  go_end0
  have hO := HO.out
  rw [List.length_append, List.length_singleton] at hO
  refine ⟨⟨_, rfl⟩, ⟨_, HW.out.set _, Kd.R_set hO HW.out (by decide) 0 _⟩, span_Parse.fh HB.out HR.out HG.out hbase⟩
theorem span_Parse.seqW2 (s sep : ByteArray) (w : World) (o1 o2 : Obj) (N : Nat) (hN : w.heap.size = N) (W0 : World) (h : seqW s sep ((w.alloc o1).alloc o2) = W0) :
    W0.heap.size = N + 5 ∧ W0.heap[N]? = some o1 ∧ W0.heap[N + 1]? = some o2 ∧ Boxed W0 (N + 2) 9 (.string s) ∧ Boxed W0 (N + 2 + 1) 9 (.string sep) ∧ Boxed W0 (N + 2 + 2) 3 (.int .i64 0) ∧ Below N w W0 := by
  subst h
  unfold seqW Boxed
  simp only [alloc_at, World.size_alloc, hN]
  refine ⟨trivial, ?_, ?_, ?_, ?_, ?_, ?_⟩
  · rw [if_neg (by omega), if_neg (by omega), if_neg (by omega), if_neg (by omega), if_pos trivial]
  · rw [if_neg (by omega), if_neg (by omega), if_neg (by omega), if_pos trivial]
  · rw [if_neg (by omega), if_neg (by omega), if_pos trivial]
  · rw [if_neg (by omega), if_pos trivial]
  · rw [if_pos trivial]
  · subst hN
    exact (((((Below.refl _ w).alloc (Nat.le_refl _) _).alloc (by simp) _).alloc (by simp; omega) _).alloc (by simp; omega) _).alloc (by simp; omega) _
theorem span_Parse.same {k : Nat} {bs acc r : List S45} {okw g : Bool} {ws : List ByteArray} {A B C : Prop} (h : (some ([], true) : Option (List S45 × Bool)) = some (bs, okw)) (h2 : (if okw = false then some ([], false) else span_Parse.read k ws (acc ++ bs)) = some (r, g))
    (h3 : A ∧ B ∧ (span_Parse.read k ws acc = some (r, g) → C)) : A ∧ B ∧ C := by
  obtain ⟨rfl, rfl⟩ := Prod.mk.inj (Option.some.inj h)
  rw [if_neg (by decide), List.append_nil] at h2
  exact ⟨h3.1, h3.2.1, h3.2.2 h2⟩
attribute [local go_sem] Oper.semAt_some span_Print.idx0 span_Print.idx1 span_Print.idx2 span_Print.idx3 span_Print.idx4
theorem span_Parse.after {B N : Nat} {w W X w8 W0 : World} {hv : Value} {cs : Array Value} (hBN : B < w.heap.size) (hN : w.heap.size = N) (hs0 : W0.heap.size = N + 5)
    (hx : Boxed (X.alloc (.cells cs 35)) N 52 hv ∧ Boxed (X.alloc (.cells cs 35)) (N + 1) 4 (.bool false) ∧ Fr B w (X.alloc (.cells cs 35)) ∧ KeepsFrom W0.heap.size W (X.alloc (.cells cs 35)) ∧ ((X.alloc (.cells cs 35)).heap[N + 2]? = W.heap[N + 2]? ∧ (X.alloc (.cells cs 35)).heap[N + 2 + 1]? = W.heap[N + 2 + 1]? ∧ (X.alloc (.cells cs 35)).heap[N + 2 + 2]? = W.heap[N + 2 + 2]?) ∧ W.heap.size ≤ (X.alloc (.cells cs 35)).heap.size)
    (hW : N + 6 ≤ W.heap.size) (hX : W.heap.size ≤ X.heap.size)
    (h : Fh 45 B (N + 5) (X.alloc (.cells cs 35)) w8) :
    Boxed w8 N 52 hv ∧ Boxed w8 (N + 1) 4 (.bool false) ∧ Fr B w w8 ∧ KeepsFrom W0.heap.size W w8 ∧ (w8.heap[N + 2]? = W.heap[N + 2]? ∧ w8.heap[N + 2 + 1]? = W.heap[N + 2 + 1]? ∧ w8.heap[N + 2 + 2]? = W.heap[N + 2 + 2]?) ∧ N + 6 ≤ w8.heap.size ∧ w8.heap[X.heap.size]? = some (.cells cs 35 (0, 0)) := by
  obtain ⟨x3, x4, x5, x6, x7, x8⟩ := hx
  refine ⟨h.boxed x3 (by omega) (by decide), h.boxed x4 (by omega) (by decide), Fh.fr x5 h (by omega), x6.trans (h.keeps (by omega)), ⟨(h.low _ (by omega) (by omega) (by omega)).trans x7.1, (h.low _ (by omega) (by omega) (by omega)).trans x7.2.1, (h.low _ (by omega) (by omega) (by omega)).trans x7.2.2⟩, Nat.le_trans (by omega) h.size, h.same _ _ (by omega) (World.alloc_heap_new X _) rfl⟩
theorem span_Parse.after2 {B N : Nat} {w W w8 w9 w10 W0 : World} {hv : Value} {P : Prop} (hBN : B < w.heap.size) (hN : w.heap.size = N) (hs0 : W0.heap.size = N + 5)
    (hx : Boxed w8 N 52 hv ∧ Boxed w8 (N + 1) 4 (.bool false) ∧ Fr B w w8 ∧ KeepsFrom W0.heap.size W w8 ∧ (w8.heap[N + 2]? = W.heap[N + 2]? ∧ w8.heap[N + 2 + 1]? = W.heap[N + 2 + 1]? ∧ w8.heap[N + 2 + 2]? = W.heap[N + 2 + 2]?) ∧ N + 6 ≤ w8.heap.size ∧ P)
    (hb : Below w8.heap.size w8 w9) (h : Fh 45 B (N + 5) w9 w10) :
    Boxed w10 N 52 hv ∧ Boxed w10 (N + 1) 4 (.bool false) ∧ Fr B w w10 ∧ KeepsFrom W0.heap.size W w10 ∧ (w10.heap[N + 2]? = W.heap[N + 2]? ∧ w10.heap[N + 2 + 1]? = W.heap[N + 2 + 1]? ∧ w10.heap[N + 2 + 2]? = W.heap[N + 2 + 2]?) := by
  obtain ⟨x3, x4, x5, x6, x7, x8, _⟩ := hx
  have hz := hb.size
  have hk : KeepsFrom W0.heap.size w8 w9 := ⟨hb.size, fun k o _ hk _ => (hb.block k (Array.getElem?_eq_some_iff.1 hk).1).trans hk⟩
  have hat : ∀ k, k < N + 5 → k ≠ B → w10.heap[k]? = w8.heap[k]? := fun k h1 h2 => (h.low _ h1 h2 (by omega)).trans (hb.block k (by omega))
  exact ⟨h.boxed (boxed_same (hb.block _ (by omega)) x3) (by omega) (by decide), h.boxed (boxed_same (hb.block _ (by omega)) x4) (by omega) (by decide), Fh.fr (x5.step hb x5.size) h (by omega), x6.trans (hk.trans (h.keeps (by omega))), ⟨(hat _ (by omega) (by omega)).trans x7.1, (hat _ (by omega) (by omega)).trans x7.2.1, (hat _ (by omega) (by omega)).trans x7.2.2⟩⟩
theorem span_Parse.fin {k : Nat} {bs bs' acc acc' r : List S45} {g : Bool} {ws : List ByteArray} {C : Prop} (h : bs' = bs) (h2 : (if true = false then some ([], false) else span_Parse.read k ws (acc ++ bs)) = some (r, g))
    (he : acc ++ bs' = acc') (h3 : span_Parse.read k ws acc' = some (r, g) → C) : C := by
  subst h
  rw [if_neg (by decide), he] at h2
  exact h3 h2
theorem span_Parse.nth (n : Nat) (hn : n < 5) : ∃ y1 y2, span_Print.signs.drop n = (y1, y2) :: span_Print.signs.drop (n + 1) ∧ ∀ w, (Instr.index 58 (.agg #[.int .i64 3, .string ⟨#[60, 61]⟩, .int .i64 5, .string ⟨#[62, 61]⟩, .int .i64 2, .string ⟨#[60]⟩, .int .i64 4, .string ⟨#[62]⟩, .int .i64 1, .string ⟨#[61]⟩]) (.int .i64 (n : Nat))).run Tryz.prog w = .ok (.agg #[.int .i64 y1, .string y2]) w := by
  obtain rfl | rfl | rfl | rfl | rfl : n = 0 ∨ n = 1 ∨ n = 2 ∨ n = 3 ∨ n = 4 := by omega
  · exact ⟨_, _, rfl, span_Print.idx0⟩
  · exact ⟨_, _, rfl, span_Print.idx1⟩
  · exact ⟨_, _, rfl, span_Print.idx2⟩
  · exact ⟨_, _, rfl, span_Print.idx3⟩
  · exact ⟨_, _, rfl, span_Print.idx4⟩
set_option maxRecDepth 100000 in
set_option maxHeartbeats 8000000 in
theorem span_Parse.read_calls (k : Nat) (s : ByteArray) (r : List S45) (g : Bool) (w w0 : World) (B : Nat) (h : span_Parse.read k (cutsL 32 s) [] = some (r, g)) (hs : s.size ≤ 140737488355328) (hb : Boxed w B 38 (.slice none 0 0))
    (hw0 : Below w0.heap.size w0 w) (h0 : w0.heap.size ≤ B) (hLD : LD w0) :
    Calls Tryz.prog 24 #[.string s, .func (.func 25) #[] #[.pointer (some ⟨B, 0, none⟩)]] w fun e w' => e = .returned (.bool g) ∧ (∃ u, Boxed w' B 38 u ∧ (g = true → Kd.R k45 45 w' w.heap.size (fun _ => True) u r)) ∧ Fr B w w' := by
  have hF : ∀ k, Fence.wide.fn k := fun _ => trivial
  have hD : Fence.wide.depth.isSome = false := rfl
  have hu := Tryz.underlying35
  refine (callsIn_wide (n := 6)).1 ?_
  refine callsIn_of_wp_marks Tryz.func24 rfl trivial ?_ rfl
  simp only [Tryz.ntmps24, List.size_toArray, List.length_cons, List.length_nil, Nat.reduceAdd, Nat.reduceSub, Array.replicate_succ, Array.replicate_zero, List.push_toArray, List.append_toArray, List.nil_append, List.cons_append]
  have HB := Lib.hid hb
  have H := Lib.hid h
  have HW0 := Lib.hid hw0
  have HL := Lib.hid hLD
  have hBN := hb.lt
  clear hb h hw0 hLD
  gi_wp2_with (gi_at_call 23; refine (callsIn_wide.2 (callsIn_wide.1 (seq_calls _ _ _))).mono ?_; rintro e w' ⟨rfl, rfl⟩)
  obtain ⟨L, hL⟩ : ∃ L, cutsL 32 s = L := ⟨_, rfl⟩
  obtain ⟨N, hN⟩ : ∃ N, w.heap.size = N := ⟨_, rfl⟩
  obtain ⟨W0, hW0⟩ : ∃ W0, seqW s ⟨#[32]⟩ ((w.alloc (.cells #[.func (.func 25) #[] #[.pointer (some ⟨B, 0, none⟩)]] 52)).alloc (.cells #[.bool false] 4)) = W0 := ⟨_, rfl⟩
  obtain ⟨hs0, b0, b1, b2, b3, b4, hB0⟩ := span_Parse.seqW2 _ _ w _ _ N hN W0 hW0
  have hN' : N ≤ w.heap.size := by omega
  rw [hW0, hN]
  clear hW0
  refine wpIn_iter (gf := 67) (lb := #[.pointer (some ⟨N + 1 + 1 + 1, 0, none⟩), .pointer (some ⟨N + 1 + 1, 0, none⟩), .pointer (some ⟨N + 1 + 1 + 2, 0, none⟩)]) rfl (enters_of Tryz.func67 (by kernel_rfl) rfl)
    (Bs := fun r => r = N + 2) (Kp := fun X Y => Y.heap[N + 2]? = X.heap[N + 2]? ∧ Y.heap[N + 2 + 1]? = X.heap[N + 2 + 1]? ∧ Y.heap[N + 2 + 2]? = X.heap[N + 2 + 2]?) (xs := L.map encS)
    (fun W hW => by rw [← hL]; exact seq1_iter s 32 (N + 2) _ W hs (boxed_same (hW.block _ (by omega)) b2) (boxed_same (hW.block _ (by omega)) b3) (boxed_same (hW.block _ (by omega)) b4) (fun _ _ h => h))
    (fun r h => by omega) (fun h k => ⟨k.1.trans h.1, k.2.1.trans h.2.1, k.2.2.trans h.2.2⟩)
    (fun W l o o' hl ho _ => ⟨World.putObj_heap_other (by omega), World.putObj_heap_other (by omega), World.putObj_heap_other (by omega)⟩)
    (fun x hx => by obtain ⟨s, _, rfl⟩ := List.mem_map.1 hx; rfl)
    (fun i W => (∃ u acc, Boxed W B 38 u ∧ Kd.R k45 45 W (N + 5) (fun _ => True) u acc ∧ Hid (span_Parse.read k (L.drop i) acc = some (r, g))) ∧ Boxed W N 52 (.func (.func 25) #[] #[.pointer (some ⟨B, 0, none⟩)]) ∧ Boxed W (N + 1) 4 (.bool false) ∧ Fr B w W)
    (fun c W => c = .ret ∧ (∃ u, Boxed W B 38 u) ∧ Boxed W (N + 1) 4 (.bool false) ∧ Hid (g = false) ∧ Fr B w W)
    ((OwnC.ex fun u => OwnC.ex fun acc => (ownC_boxed (by omega)).and ((ownC_R (by intro r hr; omega)).and (ownC_pure _))).and ((ownC_boxed (by omega)).and ((ownC_boxed (by omega)).and (ownC_fr (by omega) (by intro r hr; omega)))))
    (fun c => (ownC_pure _).and ((OwnC.ex fun u => ownC_boxed (by omega)).and ((ownC_boxed (by omega)).and ((ownC_pure _).and (ownC_fr (by omega) (by intro r hr; omega))))))
    ⟨⟨_, [], boxed_same (hB0.block _ (by omega)) HB.out, Kd.R_nil _ _ _ _ _, Lib.hid (by rw [← hL]; exact H.out)⟩, b0, b1, Fr.of_below (hN.symm ▸ hB0)⟩
    (fun i a' _ => ∃ x, L[i]? = some x ∧ a' = { tmps := #[.string s, .func (.func 25) #[] #[.pointer (some ⟨B, 0, none⟩)], undef, .pointer (some ⟨N, 0, none⟩), .pointer (some ⟨N + 1, 0, none⟩), .string x, undef, undef, undef, undef, undef, undef, undef, undef, undef, undef, .string s, .func (.func 67) #[] #[.pointer (some ⟨N + 1 + 1 + 1, 0, none⟩), .pointer (some ⟨N + 1 + 1, 0, none⟩), .pointer (some ⟨N + 1 + 1 + 2, 0, none⟩)], .string x, undef, undef, undef, undef, undef, undef, undef, undef, undef, undef, undef, undef, undef, undef, undef, undef, undef, undef, undef, undef, undef, undef, undef, undef, undef, undef, undef, undef, undef, undef, undef, undef, undef, undef, undef, undef, undef, undef, undef, undef, undef, undef, undef, undef, undef, undef, undef, undef, undef, undef, undef, undef, undef, undef, undef, undef], defers := [] })
    (fun i a' s W W' row hs hg hr => hs) ?assign ?body ?done ?stop
  case assign =>
    intro l i x W K hx _ hK
    rw [List.getElem?_map] at hx
    obtain ⟨x0, hs, rfl⟩ := Option.map_eq_some_iff.1 hx
    unfold encS
    gi_wp2
    refine hK _ _ (KeepsFrom.refl _ _) ⟨rfl, rfl, rfl⟩ (by assumption) ⟨x0, hs, rfl⟩
  case body =>
    rintro l i x a' W hl ⟨rr, hrr⟩ hx ⟨⟨u, acc, hu1, hR, HG⟩, hbN, hb1, hFr⟩ ⟨x0, hx0, rfl⟩
    have hWs : N + 6 ≤ W.heap.size := by have := (Array.getElem?_eq_some_iff.1 hrr).1; omega
    have hdrop : L.drop i = x0 :: L.drop (i + 1) := by
      rw [List.drop_eq_getElem_cons (List.getElem?_eq_some_iff.1 hx0).1]
      rw [(List.getElem?_eq_some_iff.1 hx0).2]
    have hg := HG.out
    rw [hdrop] at hg
    simp only [span_Parse.read] at hg
    split at hg
    case isFalse => cases hg
    rename_i hacc
    obtain ⟨⟨bs, okw⟩, hw, hg2⟩ := Option.bind_eq_some_iff.1 hg
    have HA := Lib.hid hacc
    have HGO := Lib.hid hg2
    have HU := Lib.hid hu1
    have HR := Lib.hid hR
    have HFR := Lib.hid hFr
    have HN := Lib.hid hbN
    have H1 := Lib.hid hb1
    have hc0 := hbN.cell
    have hc1 := hb1.cell
    have hf1 := hb1.frozen
    clear hg hdrop hx HG hacc hg2 hu1 hR hFr hbN hb1 hrr
    have HX : Hid (∀ X, Below W.heap.size W X → Boxed X B 38 u ∧ Kd.R k45 45 X (N + 5) (fun _ => True) u acc ∧ Boxed X N 52 (.func (.func 25) #[] #[.pointer (some ⟨B, 0, none⟩)]) ∧ Boxed X (N + 1) 4 (.bool false) ∧ Fr B w X ∧ KeepsFrom W0.heap.size W X ∧ (X.heap[N + 2]? = W.heap[N + 2]? ∧ X.heap[N + 2 + 1]? = W.heap[N + 2 + 1]? ∧ X.heap[N + 2 + 2]? = W.heap[N + 2 + 2]?) ∧ W.heap.size ≤ X.heap.size) := Lib.hid (fun X hX =>
      ⟨boxed_same (hX.block _ HU.out.lt) HU.out, Kd.R_below HR.out hX, boxed_same (hX.block _ (by omega)) HN.out, boxed_same (hX.block _ (by omega)) H1.out, HFR.out.step hX HFR.out.size, ⟨hX.size, fun k o _ hk _ => (hX.block k (Array.getElem?_eq_some_iff.1 hk).1).trans hk⟩, ⟨hX.block _ (by omega), hX.block _ (by omega), hX.block _ (by omega)⟩, hX.size⟩)
    unfold span_Parse.word at hw
    by_cases he : x0.toList.isEmpty = true
    · rw [if_pos he] at hw
      have HW := Lib.hid hw
      clear hw
      gi_wp2
      exact span_Parse.same HW.out HGO.out ⟨KeepsFrom.refl _ _, ⟨rfl, rfl, rfl⟩, fun h => ⟨⟨u, HU.out, acc, HR.out, Lib.hid h⟩, HN.out, H1.out, HFR.out⟩⟩
    · rw [if_neg he] at hw
      have he' : x0.toList.isEmpty = false := by simpa using he
      clear he
      by_cases hst : x0 = ⟨#[42]⟩
      · rw [if_pos hst] at hw
        have HW := Lib.hid hw
        have hq : x0.toList = [42] := by rw [hst, ByteArray.toList_eq]
        clear hw hst he'
        have he' : (x0.toList == [42]) = true := by rw [hq]; rfl
        gi_wp2
        all_goals exact span_Parse.same HW.out HGO.out ⟨KeepsFrom.refl _ _, ⟨rfl, rfl, rfl⟩, fun h => ⟨⟨u, HU.out, acc, HR.out, Lib.hid h⟩, HN.out, H1.out, HFR.out⟩⟩
      · rw [if_neg hst] at hw
        have hq : (x0.toList == [42]) = false := by
          rw [beq_eq_false_iff_ne, ByteArray.toList_eq]
          exact fun e => hst (Go.Proofs.YtijooffpjfhidaaGreatDoor.Txt.ext e)
        have hq2 : ¬ x0.toList = [42] := by simpa using hq
        clear hst
        obtain ⟨t, ht, hw⟩ := Option.bind_eq_some_iff.1 hw
        have CT := Lib.hid (fun W => strings_HasPrefix.calls x0 ⟨#[126]⟩ t W ht)
        have hsz : 0 < x0.size := by
          rw [ByteArray.toList_eq] at he'
          cases hd : x0.data.toList with
          | nil => rw [hd] at he'; cases he'
          | cons c r => have : x0.data.toList.length = x0.size := Array.length_toList; rw [hd] at this; simp at this; omega
        obtain ⟨c, hc⟩ : ∃ c, x0[0]'hsz = c := ⟨_, rfl⟩
        have hbt : bt x0 0 = (c.toNat : Int) := by unfold bt; rw [dif_pos (by simpa using hsz), ← hc]; rfl
        have hsz1 : (1 : Int) ≤ x0.size := by omega
        have hc1' : ∀ n, (W.drewN n).cell? ⟨N + 1, 0, none⟩ = some (.bool false) := fun n => hc1
        obtain ⟨wd, hwd⟩ : ∃ wd, span_Parse.wide x0 t = wd := ⟨_, rfl⟩
        rw [hwd] at hw
        obtain ⟨⟨o1, o2⟩, ho, hw⟩ := Option.bind_eq_some_iff.1 hw
        have HO := Lib.hid ho
        have HW := Lib.hid hw
        have HWD := Lib.hid hwd
        have HBT := Lib.hid hbt
        clear hw ho hwd ht hbt
        gi_upto_region 6 with (first | (gi_at_call 42; refine (callsIn_wide.2 (CT.out _)).mono ?_; rintro e w' ⟨rfl, ⟨nd, rfl⟩⟩) | fail)
        gi_cut [8] from 27 (fun s8 wc => s8 = .bool wd ∧ wc = W.drewN nd)
        case first =>
          have HWE := HWD.out
          unfold span_Parse.wide at HWE
          rw [HBT.out] at HWE
          cases t with
          | true =>
            obtain rfl : true = wd := HWE
            gi_wp2; gi_meet; exact ⟨rfl, rfl⟩
          | false =>
            have h94 : ((c.toNat : Int) == 94) = wd := HWE
            clear HWE
            cases wd
            all_goals (gi_wp2; gi_meet; exact ⟨rfl, rfl⟩)
        case rest =>
          obtain ⟨rfl, rfl⟩ := hcut
          gi_upto_if 34 with fail
          gi_cut [6, 9] from 35 (fun s6 s9 wc => ∃ (op : Int) (rest : ByteArray) (nd : Nat), s6 = .int .i64 op ∧ s9 = .string rest ∧ Hid (span_Parse.sg x0 span_Print.signs op rest = some (o1, o2)) ∧ wc = W.drewN nd)
          case first =>
            cases wd with
            | true =>
              gi_wp2
              gi_region
              all_goals (gi_wp2; gi_meet; exact ⟨_, _, _, rfl, rfl, Lib.hid HO.out, rfl⟩)
            | false => gi_wp2; gi_meet; exact ⟨_, _, _, rfl, rfl, Lib.hid HO.out, rfl⟩
          case rest =>
            clear HO
            obtain ⟨op0, rest0, nd', rfl, rfl, HO, rfl⟩ := hcut
            have HLW : Hid (∀ n, LD (W.drewN n)) := Lib.hid (fun n => HL.out.below ((HW0.out.trans (HFR.out.below h0 HW0.out.size)).trans (pw_below_drewN (Below.refl _ _) n)))
            obtain ⟨g0, g1, g2, g3, g4, g5, g6, g7, g8, g9⟩ := span_Print.sig (HLW.out nd')
            gi_wp2
            gi_loopg [6, 9, 38] 5 (fun kq v6 v9 v38 W1 => ∃ (n : Nat) (op : Int) (rest : ByteArray), v38 = .int .i64 (n : Nat) ∧ v6 = .int .i64 op ∧ v9 = .string rest ∧ Hid (kq = 5 - n ∧ n ≤ 5) ∧ Hid (span_Parse.sg x0 (span_Print.signs.drop n) op rest = some (o1, o2)) ∧ Hid (Below W.heap.size W W1))
            case atStart => exact ⟨0, op0, rest0, rfl, rfl, rfl, Lib.hid ⟨rfl, Nat.zero_le _⟩, Lib.hid HO.out, Lib.hid (pw_below_drewN (Below.refl _ _) _)⟩
            case round =>
              clear g0 g1 g2 g3 g4 g5 g6 g7 g8 g9 HO
              obtain ⟨n, op, rest, rfl, rfl, rfl, Hn, Hs, HBV⟩ := hrel
              by_cases hn : n < 5
              · obtain ⟨y1, y2, hy, hidx⟩ := span_Parse.nth n hn
                have hg := Hs.out
                rw [hy] at hg
                simp only [span_Parse.sg] at hg
                obtain ⟨⟨cu, okc⟩, hcp, hg⟩ := Option.bind_eq_some_iff.1 hg
                have CC := Lib.hid (fun W => strings_CutPrefix.calls x0 y2 cu okc W hcp)
                have HG2 := Lib.hid hg
                have HY := Lib.hid hy
                have hnn : (n : Int) + 1 ≤ 5 := by omega
                clear hg hcp hy Hs
                cases okc with
                | false =>
                  gi_wp2_with (first | (gi_at_call 43; refine (callsIn_wide.2 (CC.out _)).mono ?_; rintro e w' ⟨rfl, ⟨nc, rfl⟩⟩) | fail)
                  gi_roundg (5 - (n + 1))
                  case measure => have := Hn.out.1; omega
                  case rel => exact ⟨n + 1, op, rest, by go_num, rfl, rfl, Lib.hid ⟨rfl, by omega⟩, Lib.hid (by simpa using HG2.out), Lib.hid (pw_below_drewN (HBV.out.alloc HBV.out.size _) _)⟩
                | true =>
                  by_cases hrx : rest = x0
                  · have hrq : (rest.toList == x0.toList) = true := by rw [hrx]; exact beq_self_eq_true _
                    have HRX := Lib.hid hrx
                    clear hrx
                    gi_wp2_with (first | (gi_at_call 43; refine (callsIn_wide.2 (CC.out _)).mono ?_; rintro e w' ⟨rfl, ⟨nc, rfl⟩⟩) | fail)
                    all_goals gi_roundg (5 - (n + 1))
                    case measure => have := Hn.out.1; omega
                    case rel => exact ⟨n + 1, y1, cu, by go_num, rfl, rfl, Lib.hid ⟨rfl, by omega⟩, Lib.hid (by have := HG2.out; rw [if_pos trivial, if_pos HRX.out] at this; exact this), Lib.hid (pw_below_drewN (HBV.out.alloc HBV.out.size _) _)⟩
                  · have hrq : (rest.toList == x0.toList) = false := by
                      rw [beq_eq_false_iff_ne, ByteArray.toList_eq, ByteArray.toList_eq]
                      exact fun e => hrx (Go.Proofs.YtijooffpjfhidaaGreatDoor.Txt.ext e)
                    have HRX := Lib.hid hrx
                    clear hrx
                    gi_wp2_with (first | (gi_at_call 43; refine (callsIn_wide.2 (CC.out _)).mono ?_; rintro e w' ⟨rfl, ⟨nc, rfl⟩⟩) | fail)
                    all_goals gi_roundg (5 - (n + 1))
                    case measure => have := Hn.out.1; omega
                    case rel => exact ⟨n + 1, op, rest, by go_num, rfl, rfl, Lib.hid ⟨rfl, by omega⟩, Lib.hid (by have := HG2.out; rw [if_pos trivial, if_neg HRX.out] at this; exact this), Lib.hid (pw_below_drewN (HBV.out.alloc HBV.out.size _) _)⟩
              · obtain rfl : n = 5 := by have := Hn.out.2; omega
                have hs5 : some (op, rest) = some (o1, o2) := Hs.out
                obtain ⟨rfl, rfl⟩ := Prod.mk.inj (Option.some.inj hs5)
                obtain ⟨⟨v0, v1, v2, v3, okv⟩, hv, hw⟩ := Option.bind_eq_some_iff.1 HW.out
                have CV := Lib.hid (fun W hl => version_Parse.calls k rest v0 v1 v2 v3 okv W hv hl)
                have HW3 := Lib.hid hw
                clear hs5 hv hw Hs HW
                cases okv with
                | false =>
                  gi_wp2_with (first | (gi_at_call 44; refine (callsIn_wide.2 (CV.out _ ?hl)).mono ?_; (case hl => exact (HLW.out 0).below HBV.out); rintro e w' ⟨rfl, hbe⟩; have HBE := Lib.hid (HBV.out.trans (hbe.mono HBV.out.size)); obtain ⟨_, _, q3, q4, _, _, _, qz⟩ := HX.out w' HBE.out; have hc0' := (q3.alloc (Obj.cells #[.int .i64 v0, .int .i64 v1, .int .i64 v2, .string v3] 35)).cell; have hc1' := (q4.alloc (Obj.cells #[.int .i64 v0, .int .i64 v1, .int .i64 v2, .string v3] 35)).cell; have hf1' := (q4.alloc (Obj.cells #[.int .i64 v0, .int .i64 v1, .int .i64 v2, .string v3] 35)).frozen; clear q3 q4 hbe) | fail)
                  obtain ⟨x1, _, _, x4, x5, x6, _, _⟩ := HX.out _ (HBE.out.alloc HBE.out.size (Obj.cells #[.int .i64 v0, .int .i64 v1, .int .i64 v2, .string v3] 35))
                  have hgf : g = false := by
                    have h3 := HW3.out
                    rw [if_pos trivial] at h3
                    obtain ⟨rfl, rfl⟩ := Prod.mk.inj (Option.some.inj h3)
                    have h4 := HGO.out
                    rw [if_pos rfl] at h4
                    exact (Prod.mk.inj (Option.some.inj h4)).2.symm
                  exact ⟨kf_set x6 _ _, rfl, ⟨u, x1.other (by omega) _⟩, x4.set _, Lib.hid hgf, x5.step (bl_set (Below.refl N _) _ _ _ (by omega)) (by omega)⟩
                | true =>
                  gi_upto_if 69 with (first | (gi_at_call 44; refine (callsIn_wide.2 (CV.out _ ?hl)).mono ?_; (case hl => exact (HLW.out 0).below HBV.out); rintro e w' ⟨rfl, hbe⟩; have HBE := Lib.hid (HBV.out.trans (hbe.mono HBV.out.size)); obtain ⟨_, _, q3, q4, _, _, _, qz⟩ := HX.out w' HBE.out; have hc0' := (q3.alloc (Obj.cells #[.int .i64 v0, .int .i64 v1, .int .i64 v2, .string v3] 35)).cell; have hc1' := (q4.alloc (Obj.cells #[.int .i64 v0, .int .i64 v1, .int .i64 v2, .string v3] 35)).cell; have hf1' := (q4.alloc (Obj.cells #[.int .i64 v0, .int .i64 v1, .int .i64 v2, .string v3] 35)).frozen; clear q3 q4 hbe) | (gi_at_call 25; ((have hx := HX.out (w'.alloc (Obj.cells #[.int .i64 v0, .int .i64 v1, .int .i64 v2, .string v3] 35)) (HBE.out.alloc HBE.out.size _)); refine (callsIn_wide.2 (span_Parse.hand op v0 v1 v2 v3 acc _ B (N + 5) u hx.1 hx.2.1 ?p1 ?p2 ?p3)).mono ?_; (case p1 => omega); (case p2 => rw [World.size_alloc]; omega); (case p3 => have := HA.out; omega); rintro e w8 ⟨⟨q, rfl⟩, ⟨u2, hb2, hr2⟩, hfh⟩; have HB2 := Lib.hid hb2; have HR2 := Lib.hid hr2; have HF2 := Lib.hid (span_Parse.after (w := w) (W0 := W0) (B := B) (N := N) hBN hN hs0 hx.2.2 hWs qz hfh); obtain ⟨q3, q4, _, _, _, qy, qv⟩ := HF2.out; have hc0'' := q3.cell; have hc1'' := q4.cell; have hf1'' := q4.frozen; have n0 := span_Holds.cells qv 0 _ rfl; have n1 := span_Holds.cells qv 1 _ rfl; have n2 := span_Holds.cells qv 2 _ rfl; have n3 := span_Holds.cells qv 3 _ rfl; clear hx hb2 hr2 hfh q3 q4 qv)) | fail)
                  have h3 := HW3.out
                  rw [if_neg (by simp)] at h3
                  clear HW3
                  cases wd with
                  | true =>
                    rw [if_pos rfl] at h3
                    obtain ⟨⟨z0, z1, z2, z3⟩, hz, h3⟩ := Option.bind_eq_some_iff.1 h3
                    obtain ⟨hbs, rfl⟩ := Prod.mk.inj (Option.some.inj h3)
                    have CA := Lib.hid (fun W => span_above.calls v0 v1 v2 v3 t z0 z1 z2 z3 W hz)
                    have HBS := Lib.hid hbs
                    clear h3 hz hbs
                    gi_wp2
                    gi_region_with (first | (gi_at_call 45; refine (callsIn_wide.2 (CA.out _)).mono ?_; rintro e w9 ⟨rfl, hbe9⟩; have hb9 := (show Below w8.heap.size w8 _ from (by repeat (first | exact Below.refl _ _ | apply pw_below_drewN | apply below_drew1))).trans hbe9; have HB9 := Lib.hid hb9; have hc9 := (boxed_same (hb9.block _ (by omega)) HF2.out.1).cell; clear hbe9 hb9) | (gi_at_call 25; refine (callsIn_wide.2 (span_Parse.hand 2 z0 z1 z2 z3 (acc ++ [⟨op, ⟨v0, v1, v2, v3⟩⟩]) _ B (N + 5) u2 (boxed_same (HB9.out.block _ HB2.out.lt) HB2.out) (Kd.R_below HR2.out HB9.out) ?p1 ?p2 ?p3)).mono ?_; (case p1 => omega); (case p2 => have := HB9.out.size; omega); (case p3 => have := HA.out; rw [List.length_append, List.length_singleton]; omega); rintro e w10 ⟨⟨q', rfl⟩, ⟨u3, hb3, hr3⟩, hfh3⟩; have HB3 := Lib.hid hb3; have HR3 := Lib.hid hr3; have HF3 := Lib.hid (span_Parse.after2 hBN hN hs0 HF2.out HB9.out hfh3); clear hb3 hr3 hfh3) | fail)
                    all_goals exact span_Parse.fin HBS.out HGO.out (by simp) (fun hgo => ⟨HF3.out.2.2.2.1, HF3.out.2.2.2.2, ⟨u3, _, HB3.out, HR3.out, Lib.hid hgo⟩, HF3.out.1, HF3.out.2.1, HF3.out.2.2.1⟩)
                  | false =>
                    rw [if_neg (by decide)] at h3
                    obtain ⟨hbs, rfl⟩ := Prod.mk.inj (Option.some.inj h3)
                    have HBS := Lib.hid hbs
                    clear h3 hbs
                    gi_wp2
                    have hF2 := HF2.out
                    exact span_Parse.fin HBS.out HGO.out rfl (fun hgo => ⟨hF2.2.2.2.1, hF2.2.2.2.2.1, ⟨u2, _, HB2.out, HR2.out, Lib.hid hgo⟩, hF2.1, hF2.2.1, hF2.2.2.1⟩)
  case done =>
    rintro D W hD' ⟨⟨u, acc, hu1, hR, HG⟩, hbN, hb1, hFr⟩ hK
    have hWs : N + 5 ≤ D := by omega
    have hDl := (Array.getElem?_eq_some_iff.1 hK).1
    have hg := HG.out
    rw [List.length_map, List.drop_length] at hg
    obtain ⟨rfl, rfl⟩ := Prod.mk.inj (Option.some.inj hg)
    have HU := Lib.hid hu1
    have HR := Lib.hid hR
    have HFR := Lib.hid hFr
    have H1 := Lib.hid hb1
    have hc1 := hb1.cell
    have hf1 := hb1.frozen
    clear hg HG hu1 hR hFr hbN hb1
    gi_wp2
    have hK' := (same_set (c := N + 1) (o := 0) (v := .bool true) (X := W) (W := W) (b := D) rfl (by omega)).trans hK
    refine ⟨by simp, .inl ⟨_, _, rfl, run_takeDeferred hK', ?_⟩⟩
    have p1 := (boxed_same (World.putObj_heap_other (o := .deferred none) (by omega : N + 1 ≠ D)) (H1.out.set (.bool true))).cell
    have e1 : ∀ b, b ≠ N + 1 → b ≠ D → ((W.setCell ⟨N + 1, 0, none⟩ (.bool true)).putObj D (.deferred none)).heap[b]? = W.heap[b]? := fun b h1 h2 => (World.putObj_heap_other h2).trans (same_set (X := W) (W := W) rfl h1)
    refine ⟨.bool true, by simp [results, Tryz.f24, go_sem, p1], rfl, ⟨u, boxed_same (e1 B (by omega) (by omega)) HU.out, ?_⟩, HFR.out.step (bl_putObj (bl_set (Below.refl N W) _ _ _ (by omega)) _ (by omega) (by simp; omega) hK') (by omega)⟩
    refine Kd.R_lower (base := N + 5) (Kd.R_mono (Kd.R_step (Kd.R_bound HR.out) (fun k hk _ => e1 k (by omega) (fun ek => ?_))) (fun _ _ => trivial)) (by omega)
    obtain ⟨_, _, _, q, _, cells, hq⟩ := hk
    rw [ek, hK] at hq; cases hq
  case stop =>
    rintro D c W hD' ⟨rfl, ⟨u, hu1⟩, hb1, HGF, hFr⟩ hK
    obtain rfl := HGF.out
    have hDl := (Array.getElem?_eq_some_iff.1 hK).1
    have HU := Lib.hid hu1
    have HFR := Lib.hid hFr
    have H1 := Lib.hid hb1
    clear hu1 hFr hb1
    gi_wp2
    refine ⟨by simp, .inl ⟨_, _, rfl, run_takeDeferred hK, ?_⟩⟩
    have p1 := (boxed_same (World.putObj_heap_other (o := .deferred none) (by omega : N + 1 ≠ D)) H1.out).cell
    exact ⟨.bool false, by simp [results, Tryz.f24, go_sem, p1], rfl, ⟨u, boxed_same (World.putObj_heap_other (by omega)) HU.out⟩, HFR.out.step (bl_putObj (Below.refl N W) _ (by omega) (by omega) hK) (by omega)⟩
end
end Go.Proofs.YtijooffpjfhidaaGreatDoor.G
end
section
namespace Go.Proofs.YtijooffpjfhidaaGreatDoor.G
open Go.RowKit Go.Proofs.YtijooffpjfhidaaGreatDoorW.PrintWords Go.Proofs.YtijooffpjfhidaaGreatDoorW.PrintLast Go.Proofs.YtijooffpjfhidaaGreatDoorW.PrintMore
attribute [local go_sem] Go.Proofs.YtijooffpjfhidaaGreatDoor.Aid.gtr_string max2_int min2_int max_two min_two max_three min_three max_four min_four
set_option linter.unusedVariables false
set_option linter.unusedSimpArgs false
section
open Lib Go.Proofs.YtijooffpjfhidaaGreatDoor.Rng Go.Proofs.YtijooffpjfhidaaGreatDoor.Seq Go.Proofs.YtijooffpjfhidaaGreatDoor.App
attribute [local go_sem] Oper.semAt_some
theorem span_Parse.fr_at {W w8 : World} {o : Obj} (h : Fr W.heap.size (W.alloc o) w8) (k : Nat) (hk : k < W.heap.size) : w8.heap[k]? = W.heap[k]? := (h.block k (by rw [World.size_alloc]; omega) (by omega)).trans (Below.heap_alloc W o k hk)
theorem span_Parse.fr_size {W w8 : World} {o : Obj} (h : Fr W.heap.size (W.alloc o) w8) : W.heap.size ≤ w8.heap.size := by have := h.size; rw [World.size_alloc] at this; omega
theorem span_Parse.fr_keeps {W w8 : World} {o : Obj} {B : Nat} (h : Fr W.heap.size (W.alloc o) w8) : KeepsFrom B W w8 := ⟨span_Parse.fr_size h, fun k o _ hk _ => (span_Parse.fr_at h k (Array.getElem?_eq_some_iff.1 hk).1).trans hk⟩
theorem span_Parse.fr_below {W w8 : World} {o : Obj} {n : Nat} (h : Fr W.heap.size (W.alloc o) w8) (hn : n ≤ W.heap.size) : Below n W w8 := ⟨h.os, h.tape, h.output, span_Parse.fr_size h, fun k hk => span_Parse.fr_at h k (by omega)⟩
theorem span_Parse.flat {W : World} {base : Nat} {u : Value} {bs : List S45} (h : Kd.R k45 45 W base (fun _ => True) u bs) : Kd.R k45 45 W base (fun k_ => some k_ = u.ownBlock) u bs :=
  Kd.R_flat (fun h => by obtain rfl := k45_openM h; exact k45_mkM _ _ _ _) h (fun k hk _ => hk.symm)
theorem span_Parse.step {N B0 : Nat} {w W w8 w1 : World} {o : Obj} {v v1 x y : Value} {all all' : List (List S45)} (hWs : N + 7 ≤ W.heap.size) (hB0 : N + 6 ≤ B0) (hgN : 3 < N)
    (HV : Boxed W (N + 2) 24 v) (HS : Kd.S (Kd.slice 45 k45) 38 W (N + 6) (fun _ => True) v all) (HN : Boxed W N 24 x) (H1 : Boxed W (N + 1) 4 y) (HB : Below N w W) (HFR : Fr W.heap.size (W.alloc o) w8) (hg : w8.grownBy w1 v.ownBlock)
    (ho : Kd.S (Kd.slice 45 k45) 38 w1 (N + 6) (fun _ => True) v1 all') :
    KeepsFrom B0 W (w1.setCell ⟨N + 2, 0, none⟩ v1) ∧ ((w1.setCell ⟨N + 2, 0, none⟩ v1).heap[N + 3]? = W.heap[N + 3]? ∧ (w1.setCell ⟨N + 2, 0, none⟩ v1).heap[N + 3 + 1]? = W.heap[N + 3 + 1]? ∧ (w1.setCell ⟨N + 2, 0, none⟩ v1).heap[N + 3 + 2]? = W.heap[N + 3 + 2]? ∧ (w1.setCell ⟨N + 2, 0, none⟩ v1).cell? ⟨3, 0, none⟩ = W.cell? ⟨3, 0, none⟩) ∧
      (Boxed (w1.setCell ⟨N + 2, 0, none⟩ v1) (N + 2) 24 v1 ∧ Kd.S (Kd.slice 45 k45) 38 (w1.setCell ⟨N + 2, 0, none⟩ v1) (N + 6) (fun _ => True) v1 all') ∧ Boxed (w1.setCell ⟨N + 2, 0, none⟩ v1) N 24 x ∧ Boxed (w1.setCell ⟨N + 2, 0, none⟩ v1) (N + 1) 4 y ∧ Below N w (w1.setCell ⟨N + 2, 0, none⟩ v1) := by
  have h8 := span_Parse.fr_size HFR
  have h1 := hg.size
  have hat : ∀ k, k < W.heap.size → some k ≠ v.ownBlock → k ≠ N + 2 → (w1.setCell ⟨N + 2, 0, none⟩ v1).heap[k]? = W.heap[k]? := fun k hk hn h2 =>
    (Below.heap_setCell w1 ⟨N + 2, 0, none⟩ v1 k h2).trans ((hg.block k (by omega) hn).trans (span_Parse.fr_at HFR k hk))
  have hlow : ∀ k, k < N + 6 → some k ≠ v.ownBlock := fun k hk e => by have := Kd.S_base HS k e.symm; omega
  have hs1 : W.heap.size ≤ (w1.setCell ⟨N + 2, 0, none⟩ v1).heap.size := Nat.le_trans (by omega) (KeepsWalks.setCell w1 ⟨N + 2, 0, none⟩ v1).size
  have hv1 : Boxed w1 (N + 2) 24 v := (boxed_same (span_Parse.fr_at HFR _ (by omega)) HV).kept hg (hlow _ (by omega))
  refine ⟨⟨hs1, fun k o' hk ho' hc => (hat k (Array.getElem?_eq_some_iff.1 ho').1 (fun e => ?_) (by omega)).trans ho'⟩, ⟨hat _ (by omega) (hlow _ (by omega)) (by omega), hat _ (by omega) (hlow _ (by omega)) (by omega), hat _ (by omega) (hlow _ (by omega)) (by omega), World.cell?_of_block (w := W) (hat _ (by show 3 < _; omega) (hlow _ (by show 3 < _; omega)) (by show 3 ≠ _; omega))⟩,
    ⟨hv1.set v1, Kd.S_set ho hv1 (by decide) 0 _⟩, boxed_same (hat _ (by omega) (hlow _ (by omega)) (by omega)) HN, boxed_same (hat _ (by omega) (hlow _ (by omega)) (by omega)) H1, ?_⟩
  · obtain ⟨cells, hc'⟩ := Kd.S_typed HS k e.symm
    rw [hc'] at ho'; cases ho'; cases hc
  · exact HB.trans ⟨hg.os.trans HFR.os, hg.tape.trans HFR.tape, hg.output.trans HFR.output, hs1, fun k hk => hat k (by omega) (hlow k (by omega)) (by omega)⟩
set_option maxRecDepth 100000 in
set_option maxHeartbeats 8000000 in
theorem span_Parse.calls (k : Nat) (a0 : ByteArray) (r1 : List (List (S45))) (r2 : Bool) (w : World) (h : span_Parse.f k a0 = some (r1, r2)) (hLD : LD w) :
    Calls Tryz.prog 12 #[.string a0] w fun e w' => ∃ v0_ : Value, e = .returned (.tuple #[.agg #[v0_], .bool r2]) ∧ Kd.S (Kd.slice 45 k45) 38 w' w.heap.size (fun _ => True) v0_ r1 ∧ Below w.heap.size w w' := by
  unfold span_Parse.f at h
  split at h
  case isFalse => cases h
  rename_i hsz
  have hF : ∀ k, Fence.wide.fn k := fun _ => trivial
  have hD : Fence.wide.depth.isSome = false := rfl
  have hu := Tryz.underlying24
  obtain ⟨m, hm⟩ := hLD.mx
  have hgN : 3 < w.heap.size := cell?_lt hm
  refine (callsIn_wide (n := 6)).1 ?_
  refine callsIn_of_wp_marks Tryz.func12 rfl trivial ?_ rfl
  simp only [Tryz.ntmps12, List.size_toArray, List.length_cons, List.length_nil, Nat.reduceAdd, Nat.reduceSub, Array.replicate_succ, Array.replicate_zero, List.push_toArray, List.append_toArray, List.nil_append, List.cons_append]
  have H := Lib.hid h
  have HL := Lib.hid hLD
  have HM := Lib.hid hm
  clear h hLD hm
  gi_wp2_with (gi_at_call 23; refine (callsIn_wide.2 (callsIn_wide.1 (seq_calls _ _ _))).mono ?_; rintro e w' ⟨rfl, rfl⟩)
  obtain ⟨L, hL⟩ : ∃ L, cutsD a0 = L := ⟨_, rfl⟩
  obtain ⟨N, hN⟩ : ∃ N, w.heap.size = N := ⟨_, rfl⟩
  obtain ⟨W0, hW0⟩ : ∃ W0, seqW a0 ⟨#[124, 124]⟩ (((w.alloc (.cells #[.slice none 0 0] 24)).alloc (.cells #[.bool false] 4)).alloc (.cells #[.slice none 0 0] 24)) = W0 := ⟨_, rfl⟩
  obtain ⟨hs0, b0, b1, b2, b3, b4, b5, hB0⟩ := seqW_facts _ _ w _ _ _ N hN W0 hW0
  have hN' : N ≤ w.heap.size := by omega
  rw [hW0, hN]
  clear hW0
  have hKm : ∀ (X Y : World), Below N X Y → Y.cell? ⟨3, 0, none⟩ = X.cell? ⟨3, 0, none⟩ := fun X Y hb => hb.cell (p := ⟨3, 0, none⟩) (by show 3 < N; omega)
  have HKM := Lib.hid hKm
  clear hKm
  refine wpIn_iter (gf := 67) (lb := #[.pointer (some ⟨N + 1 + 1 + 1 + 1, 0, none⟩), .pointer (some ⟨N + 1 + 1 + 1, 0, none⟩), .pointer (some ⟨N + 1 + 1 + 1 + 2, 0, none⟩)]) rfl (enters_of Tryz.func67 (by kernel_rfl) rfl)
    (Bs := fun r => r = N + 3) (Kp := fun X Y => Y.heap[N + 3]? = X.heap[N + 3]? ∧ Y.heap[N + 3 + 1]? = X.heap[N + 3 + 1]? ∧ Y.heap[N + 3 + 2]? = X.heap[N + 3 + 2]? ∧ Y.cell? ⟨3, 0, none⟩ = X.cell? ⟨3, 0, none⟩) (xs := L.map encS)
    (fun W hW => by rw [← hL]; exact seq2_iter a0 m (N + 3) _ W hsz (boxed_same (hW.block _ (by omega)) b3) (boxed_same (hW.block _ (by omega)) b4) (boxed_same (hW.block _ (by omega)) b5) ((HKM.out _ _ (hW.mono (by omega))).trans ((HKM.out _ _ hB0).trans HM.out)) (by omega) (fun _ _ h => h))
    (fun r h => by omega) (fun h k => ⟨k.1.trans h.1, k.2.1.trans h.2.1, k.2.2.1.trans h.2.2.1, k.2.2.2.trans h.2.2.2⟩)
    (fun W l o o' hl ho _ => ⟨World.putObj_heap_other (by omega), World.putObj_heap_other (by omega), World.putObj_heap_other (by omega), World.cell?_of_block (w := W) (World.putObj_heap_other (by show 3 ≠ l; omega))⟩)
    (fun x hx => by obtain ⟨s, _, rfl⟩ := List.mem_map.1 hx; rfl)
    (fun i W => (∃ v all, Boxed W (N + 2) 24 v ∧ Kd.S (Kd.slice 45 k45) 38 W (N + 6) (fun _ => True) v all ∧ Hid (span_Parse.go k (L.drop i) all = some (r1, r2))) ∧ Boxed W N 24 (.slice none 0 0) ∧ Boxed W (N + 1) 4 (.bool false) ∧ Below N w W)
    (fun c W => c = .ret ∧ Boxed W N 24 (.slice none 0 0) ∧ Boxed W (N + 1) 4 (.bool false) ∧ Hid (r1 = [] ∧ r2 = false) ∧ Below N w W)
    ((OwnC.ex fun v => OwnC.ex fun all => (ownC_boxed (by omega)).and ((ownC_S (by intro r hr; omega)).and (ownC_pure _))).and ((ownC_boxed (by omega)).and ((ownC_boxed (by omega)).and (ownC_below hN' (by omega) (by intro r hr; omega)))))
    (fun c => (ownC_pure _).and ((ownC_boxed (by omega)).and ((ownC_boxed (by omega)).and ((ownC_pure _).and (ownC_below hN' (by omega) (by intro r hr; omega))))))
    ⟨⟨_, [], b2, Kd.S_nil _ _ _ _ _, Lib.hid (by rw [← hL]; exact H.out)⟩, b0, b1, hB0⟩
    (fun i a' _ => ∃ x, L[i]? = some x ∧ a' = { tmps := #[.string a0, undef, .pointer (some ⟨N, 0, none⟩), .pointer (some ⟨N + 1, 0, none⟩), .pointer (some ⟨N + 1 + 1, 0, none⟩), .string x, undef, .string a0, .func (.func 67) #[] #[.pointer (some ⟨N + 1 + 1 + 1 + 1, 0, none⟩), .pointer (some ⟨N + 1 + 1 + 1, 0, none⟩), .pointer (some ⟨N + 1 + 1 + 1 + 2, 0, none⟩)], .string x, undef, undef, undef, undef, undef, undef, undef, undef, undef, undef, undef, undef, undef, undef, undef, undef], defers := [] })
    (fun i a' s W W' row hs hg hr => hs) ?assign ?body ?done ?stop
  case assign =>
    intro l i x W K hx _ hK
    rw [List.getElem?_map] at hx
    obtain ⟨x0, hs, rfl⟩ := Option.map_eq_some_iff.1 hx
    unfold encS
    gi_wp2
    refine hK _ _ (KeepsFrom.refl _ _) ⟨rfl, rfl, rfl, rfl⟩ (by assumption) ⟨x0, hs, rfl⟩
  case body =>
    rintro l i x a' W hl ⟨rr, hrr⟩ hx ⟨⟨v, all, hv, hS, HG⟩, hbN, hb1, hBl⟩ ⟨x0, hx0, rfl⟩
    have hWs : N + 7 ≤ W.heap.size := by have := (Array.getElem?_eq_some_iff.1 hrr).1; omega
    have hdrop : L.drop i = x0 :: L.drop (i + 1) := by
      rw [List.drop_eq_getElem_cons (List.getElem?_eq_some_iff.1 hx0).1]
      rw [(List.getElem?_eq_some_iff.1 hx0).2]
    have hg := HG.out
    rw [hdrop] at hg
    simp only [span_Parse.go] at hg
    split at hg
    case isFalse => cases hg
    rename_i hxs
    split at hg
    case isFalse => cases hg
    rename_i hal
    obtain ⟨⟨bs, okr⟩, hr, hg2⟩ := Option.bind_eq_some_iff.1 hg
    have HGO := Lib.hid hg2
    have HA := Lib.hid hal
    have hS' := hS
    obtain ⟨A, c, rfl⟩ := Kd.S_slice hS'
    have CR := Lib.hid (span_Parse.read_calls k x0 bs okr (W.alloc (.cells #[.slice none 0 0] 38)) w W.heap.size hr hxs (Boxed.new W _ _) (hN.symm ▸ hBl.alloc (by omega) _) (by omega) HL.out)
    have HV := Lib.hid hv
    have HS := Lib.hid hS
    have HN := Lib.hid hbN
    have H1 := Lib.hid hb1
    have HB := Lib.hid hBl
    have hv2 := hv.cell
    clear hg hg2 hdrop hx HG hal hr hxs hv hS hS' hbN hb1 hBl hrr
    cases okr with
    | false =>
      gi_wp2_with (first | (gi_at_call 24; refine (callsIn_wide.2 CR.out).mono ?_; rintro e w8 ⟨rfl, ⟨u, hu8, _⟩, hfr⟩; have h8 := hfr.size; rw [World.size_alloc] at h8; have HFR := Lib.hid hfr; have hq0 := boxed_same (hfr.block N (by rw [World.size_alloc]; omega) (by omega)) (HN.out.alloc _); have hq1 := boxed_same (hfr.block (N + 1) (by rw [World.size_alloc]; omega) (by omega)) (H1.out.alloc _); have HQ0 := Lib.hid hq0; have HQ1 := Lib.hid hq1; have c0 := hq0.cell; have f0 := hq0.frozen; have c1 := hq1.cell; have f1 := hq1.frozen; clear hu8 hfr hq0 hq1) | fail)
      have hgf : r1 = [] ∧ r2 = false := by
        have h4 := HGO.out
        rw [if_pos trivial] at h4
        obtain ⟨rfl, rfl⟩ := Prod.mk.inj (Option.some.inj h4)
        exact ⟨rfl, rfl⟩
      exact ⟨kf_set (kf_set (span_Parse.fr_keeps HFR.out) _ _) _ _, rfl, (HQ0.out.set _).other (by omega) _, (HQ1.out.other (by omega) _).set _, Lib.hid hgf, bl_set (bl_set (HB.out.trans (span_Parse.fr_below HFR.out (by omega))) _ _ _ (by omega)) _ _ _ (by omega)⟩
    | true =>
      gi_wp2_with (first | (gi_at_call 24; refine (callsIn_wide.2 CR.out).mono ?_; rintro e w8 ⟨rfl, ⟨u, hu8, hr8⟩, hfr⟩; have h8 := hfr.size; rw [World.size_alloc] at h8; have hR8 := hr8 rfl; have hR8' := hR8; obtain ⟨Au, cu, rfl⟩ := Kd.R_slice hR8'; have HFR := Lib.hid hfr; have HR8 := Lib.hid hR8; have hq2 := boxed_same (hfr.block (N + 2) (by rw [World.size_alloc]; omega) (by omega)) (HV.out.alloc _); have HQ2 := Lib.hid hq2; have HU8 := Lib.hid hu8; have c2 := hq2.cell; have c3 := hu8.cell; clear hr8 hR8 hR8' hu8 hfr hq2) | (gi_at_builtin; refine S_append_in (Kd.slice 45 k45) (N + 6) ?a1 (.tmp 16) (.tmp 18) 22 38 (.slice none 0 0) 24 ?a2 ?a3 ?a4 ?a5 ?a6 ?a7 (.slice A all.length c) all bs [.slice Au bs.length cu] (fun _ => True) (fun k_ => some k_ = (Value.slice Au bs.length cu).ownBlock) ?aY ?aX ?aP ?aK ?aF ?aO ?aS ?aL ?_; (case a1 => rfl); (case a2 => rfl); (case a3 => exact Tryz.underlying22); (case a4 => exact info38); (case a5 => rfl); (case a6 => decide); (case a7 => decide); (case aY => rfl); (case aX => first | rfl | (rw [World.size_alloc]; rfl)); (case aP => exact ⟨_, rfl, Kd.R_lower (span_Parse.flat HR8.out) (by rw [World.size_alloc]; omega)⟩); (case aK => exact fun k_ hk => ⟨trivial, fun e => by have h1 := Kd.S_lt HS.out k_ e.symm; have h2 := Kd.R_base HR8.out k_ hk.symm; rw [World.size_alloc] at h2; omega⟩); (case aF => exact (fun _ _ => trivial)); (case aO => exact Kd.S_mono (Kd.S_step (Kd.S_bound HS.out) (fun k_ hk _ => span_Parse.fr_at HFR.out k_ hk.2.2.1)) (fun k_ hk => ⟨trivial, fun e => by have h1 := hk.2.2.1; have h2 := Kd.R_base HR8.out k_ e.symm; rw [World.size_alloc] at h2; omega⟩)); (case aS => omega); (case aL => have := HA.out; omega); intro v1 w1 ho hg hat; have hw1 := HQ2.out.kept hg (Kd.S_ne HS.out HV.out (by decide)); have ho' := ho; obtain ⟨A1, c1, rfl⟩ := Kd.S_slice ho'; have HO := Lib.hid ho; have HG1 := Lib.hid hg; have c4 := hw1.cell; have f4 := hw1.frozen; clear ho ho' hg hat hw1) | fail)
      have hO := HO.out
      rw [List.length_append, List.length_singleton] at hO
      obtain ⟨x1, x2, x3, x4, x5, x6⟩ := span_Parse.step (B0 := W0.heap.size) hWs (by omega) (by omega) HV.out HS.out HN.out H1.out HB.out HFR.out HG1.out hO
      have h4 := HGO.out
      rw [if_neg (by simp)] at h4
      exact ⟨x1, x2, ⟨_, _, x3.1, x3.2, Lib.hid h4⟩, x4, x5, x6⟩
  case done =>
    rintro D W hD' ⟨⟨v, all, hv, hS, HG⟩, hbN, hb1, hBl⟩ hK
    have hDl := (Array.getElem?_eq_some_iff.1 hK).1
    have hg := HG.out
    rw [List.length_map, List.drop_length] at hg
    obtain ⟨g, hr, hg2⟩ := Option.bind_eq_some_iff.1 hg
    obtain ⟨A, c, rfl, hc, hC⟩ := Kd.S_reads hS
    have CR := Lib.hid (span_right.calls k A c all g W hC hc hr (HL.out.below (hN.symm ▸ hBl)))
    have HV := Lib.hid hv
    have HS := Lib.hid hS
    have HN := Lib.hid hbN
    have H1 := Lib.hid hb1
    have HB := Lib.hid hBl
    have HG2 := Lib.hid hg2
    have hv2 := hv.cell
    clear hg hg2 HG hr hC hc hv hS hbN hb1 hBl
    have HX : Hid (∀ X, Below W.heap.size W X → ∀ y, X.heap[D]? = some (.deferred (some [])) ∧ ((X.setCell ⟨N, 0, none⟩ y).setCell ⟨N + 1, 0, none⟩ (.bool g)).heap[D]? = some (.deferred (some [])) ∧ Boxed (((X.setCell ⟨N, 0, none⟩ y).setCell ⟨N + 1, 0, none⟩ (.bool g)).putObj D (.deferred none)) N 24 y ∧ Boxed (((X.setCell ⟨N, 0, none⟩ y).setCell ⟨N + 1, 0, none⟩ (.bool g)).putObj D (.deferred none)) (N + 1) 4 (.bool g) ∧ Kd.S (Kd.slice 45 k45) 38 (((X.setCell ⟨N, 0, none⟩ y).setCell ⟨N + 1, 0, none⟩ (.bool g)).putObj D (.deferred none)) N (fun _ => True) (.slice A all.length c) all ∧ Below N w (((X.setCell ⟨N, 0, none⟩ y).setCell ⟨N + 1, 0, none⟩ (.bool g)).putObj D (.deferred none))) := Lib.hid (fun X hX y => by
      have hKX := (hX.block _ hDl).trans hK
      have hKY := (same_set (c := N + 1) (o := 0) (v := .bool g) (X := X.setCell ⟨N, 0, none⟩ y) (W := X.setCell ⟨N, 0, none⟩ y) (b := D) rfl (by omega)).trans ((same_set (c := N) (o := 0) (v := y) (X := X) (W := X) (b := D) rfl (by omega)).trans hKX)
      have e1 : ∀ b, b ≠ N → b ≠ N + 1 → b ≠ D → b < W.heap.size → (((X.setCell ⟨N, 0, none⟩ y).setCell ⟨N + 1, 0, none⟩ (.bool g)).putObj D (.deferred none)).heap[b]? = W.heap[b]? := fun b h1 h2 h3 h4 => (World.putObj_heap_other h3).trans ((same_set (X := X.setCell ⟨N, 0, none⟩ y) (W := X.setCell ⟨N, 0, none⟩ y) rfl h2).trans ((same_set (X := X) (W := X) rfl h1).trans (hX.block _ h4)))
      have hxN := boxed_same (hX.block N (by omega)) HN.out
      have hx1 := boxed_same (hX.block (N + 1) (by omega)) H1.out
      refine ⟨hKX, hKY, boxed_same (World.putObj_heap_other (by omega)) ((hxN.set y).other (by omega) _), boxed_same (World.putObj_heap_other (by omega)) ((hx1.other (by omega) _).set _), ?_, bl_putObj (bl_set (bl_set (HB.out.trans (hX.mono (by omega))) _ _ _ (by omega)) _ _ _ (by omega)) _ (by omega) (by have := hX.size; simp; omega) hKY⟩
      refine Kd.S_lower (base := N + 6) (Kd.S_mono (Kd.S_step (Kd.S_bound HS.out) (fun k hk hl => e1 k (by omega) (by omega) (fun ek => ?_) hl)) (fun _ _ => trivial)) (by omega)
      obtain ⟨_, _, _, q, _, cells, hq⟩ := hk
      rw [ek, hK] at hq; cases hq)
    cases g with
    | true =>
      gi_wp2_with (first | (gi_at_call 26; refine (callsIn_wide.2 CR.out).mono ?_; rintro e w8 ⟨rfl, hb8⟩; have HB8 := Lib.hid hb8; have hq0 := boxed_same (hb8.block N (by omega)) HN.out; have hq1 := boxed_same (hb8.block (N + 1) (by omega)) H1.out; have hq2 := boxed_same (hb8.block (N + 2) (by omega)) HV.out; have c0 := hq0.cell; have f0 := hq0.frozen; have c1 := hq1.cell; have f1 := hq1.frozen; have c2 := hq2.cell; clear hb8 hq0 hq1 hq2) | fail)
      obtain ⟨_, x2, x3, x4, x5, x6⟩ := HX.out w8 HB8.out (.slice A all.length c)
      refine ⟨by simp, .inl ⟨_, _, rfl, run_takeDeferred x2, ?_⟩⟩
      have p0 := x3.cell
      have p1 := x4.cell
      have h2 := HG2.out
      simp only [if_true] at h2
      obtain ⟨rfl, rfl⟩ := Prod.mk.inj (Option.some.inj h2)
      exact ⟨.tuple #[.agg #[.slice A all.length c], .bool true], by simp [results, Tryz.f12, go_sem, p0, p1], _, rfl, hN.symm ▸ x5, hN.symm ▸ x6⟩
    | false =>
      gi_wp2_with (first | (gi_at_call 26; refine (callsIn_wide.2 CR.out).mono ?_; rintro e w8 ⟨rfl, hb8⟩; have HB8 := Lib.hid hb8; have hq0 := boxed_same (hb8.block N (by omega)) HN.out; have hq1 := boxed_same (hb8.block (N + 1) (by omega)) H1.out; have hq2 := boxed_same (hb8.block (N + 2) (by omega)) HV.out; have c0 := hq0.cell; have f0 := hq0.frozen; have c1 := hq1.cell; have f1 := hq1.frozen; have c2 := hq2.cell; clear hb8 hq0 hq1 hq2) | fail)
      obtain ⟨_, x2, x3, x4, x5, x6⟩ := HX.out w8 HB8.out (.slice none 0 0)
      refine ⟨by simp, .inl ⟨_, _, rfl, run_takeDeferred x2, ?_⟩⟩
      have p0 := x3.cell
      have p1 := x4.cell
      have h2 := HG2.out
      simp only [Bool.false_eq_true, if_false] at h2
      obtain ⟨rfl, rfl⟩ := Prod.mk.inj (Option.some.inj h2)
      exact ⟨.tuple #[.agg #[.slice none 0 0], .bool false], by simp [results, Tryz.f12, go_sem, p0, p1], _, rfl, Kd.S_nil _ _ _ _ _, hN.symm ▸ x6⟩
  case stop =>
    rintro D c W hD' ⟨rfl, hbN, hb1, HGF, hBl⟩ hK
    obtain ⟨rfl, rfl⟩ := HGF.out
    have hDl := (Array.getElem?_eq_some_iff.1 hK).1
    have HN := Lib.hid hbN
    have H1 := Lib.hid hb1
    have HB := Lib.hid hBl
    clear hbN hb1 hBl
    gi_wp2
    refine ⟨by simp, .inl ⟨_, _, rfl, run_takeDeferred hK, ?_⟩⟩
    have p0 := (boxed_same (World.putObj_heap_other (o := .deferred none) (by omega : N ≠ D)) HN.out).cell
    have p1 := (boxed_same (World.putObj_heap_other (o := .deferred none) (by omega : N + 1 ≠ D)) H1.out).cell
    exact ⟨.tuple #[.agg #[.slice none 0 0], .bool false], by simp [results, Tryz.f12, go_sem, p0, p1], _, rfl, Kd.S_nil _ _ _ _ _, bl_putObj HB.out _ (by omega) (by omega) hK⟩
end
end Go.Proofs.YtijooffpjfhidaaGreatDoor.G
end
section
namespace Go.Proofs.YtijooffpjfhidaaGreatDoor.G
open Go.RowKit Go.Proofs.YtijooffpjfhidaaGreatDoorW.PrintWords Go.Proofs.YtijooffpjfhidaaGreatDoorW.PrintLast Go.Proofs.YtijooffpjfhidaaGreatDoorW.PrintMore
attribute [local go_sem] Go.Proofs.YtijooffpjfhidaaGreatDoor.Aid.gtr_string max2_int min2_int max_two min_two max_three min_three max_four min_four
set_option linter.unusedVariables false
set_option linter.unusedSimpArgs false
set_option maxHeartbeats 8000000
set_option maxRecDepth 100000
def hoggetlaw05_word.f (k : Nat) (a0 : ByteArray) : Option (ByteArray) := (span_Parse.f k a0).bind fun bt338 => ((span_Print.f k bt338.1).bind fun bt343 => (if bt338.2 = true then (if bt343.2 = true then (some bt343.1) else (some (⟨#[110, 111, 110, 101]⟩ : ByteArray))) else (some (⟨#[110, 111, 110, 101]⟩ : ByteArray))))
theorem hoggetlaw05_word.calls (k : Nat) (a0 : ByteArray) (r : ByteArray) (w : World) (h : hoggetlaw05_word.f k a0 = some r) (hLD : LD w) :
 Calls Tryz.prog 33 #[.string a0] w fun e w' => e = .returned (.string r) ∧ Below w.heap.size w w' := by
 have hu24 := Tryz.underlying24;have HB := Aside0.mk (Below.refl w.heap.size w);have H : ((span_Parse.f k a0).bind fun bt338 => ((span_Print.f k bt338.1).bind fun bt343 => (if bt338.2 = true then (if bt343.2 = true then (some bt343.1) else (some (⟨#[110, 111, 110, 101]⟩ : ByteArray))) else (some (⟨#[110, 111, 110, 101]⟩ : ByteArray))))) = some r := h;clear h;replace H := Option.bind_eq_some_iff.mp H;obtain ⟨⟨t338, t341⟩, A20, H⟩ := H;have A2 := Aside0.mk A20;clear A20;replace H := Option.bind_eq_some_iff.mp H;obtain ⟨⟨t343, t344⟩, A30, H⟩ := H;have A3 := Aside0.mk A30;clear A30;by_cases c4 : t341 = true
 ·subst c4;(have H1 : (if t344 = true then (some t343) else (some (⟨#[110, 111, 110, 101]⟩ : ByteArray))) = some r := by rw [if_pos rfl] at H; exact H);clear H;have H := H1;clear H1;by_cases c5 : t344 = true
  ·subst c5;(have H1 : (some t343) = some r := by rw [if_pos rfl] at H; exact H);clear H;have H := H1;clear H1;obtain rfl := Option.some.inj H;(go_enter Tryz.func33, Tryz.ntmps33);go_wp2_with (first | ((with_reducible refine gate_callee (f := 12) rfl ?_); refine goesL_ (some 9) rfl rfl Tryz.func12 (by kernel_rfl) rfl #[.string a0] rfl sM ?_; (with_reducible refine (span_Parse.calls k a0 t338 true _ A2.out (sH hLD HB.out)).mono ?_); rintro e w6 ⟨v339, rfl, ho0, hb⟩; refine ⟨_, rfl, ?_⟩; have n0_ := Aside0.mk (Kd.S_lower ho0 (below_size (sL HB.out))); have n1_ := Aside0.mk (below_step (sL HB.out) hb); clear HB; have HO340 := n0_; have HB := n1_; clear n0_ n1_; (try clear hb); (try clear hb2); (try clear hk); (try clear hi); (try clear ho0)) | ((with_reducible refine gate_dst (N := 3) rfl ?_); refine box_event ?hg (N := 3) ?hd (cs := #[.slice none 0 0]) (t := 24) ?hr ?_; (case hd => rfl); (case hg => rfl); (case hr => first | (go_simp; done) | (go_simp; rfl)); intro gb342 hg w7 hbox hb; have n0_ := Aside0.mk (Kd.S_below (sS HO340.out) hb); have n1_ := Aside0.mk (below_step (sL HB.out) hb); have n2_ := Aside0.mk (hbox); have n3_ := Aside0.mk ((by rw [hg]; exact (below_size (sL HB.out)) : w.heap.size ≤ gb342)); have n4_ := Aside0.mk ((by rw [hg]; exact (below_size (sL HB.out)) : w.heap.size ≤ gb342)); clear HO340; clear HB; have HO340 := n0_; have HB := n1_; have BK342 := n2_; have GW342 := n3_; have GE342 := n4_; clear n0_ n1_ n2_ n3_ n4_; clear hb hbox hg; obtain ⟨Ao8, co8, eo8⟩ := Kd.S_slice HO340.out; subst eo8; have hcz9_0 : w7.cell? ⟨gb342, 0, none⟩ = some (.slice none 0 0) := (blk_cell BK342.out 0).trans rfl; have hfz9_0 := blk_frozen BK342.out 0) | ((with_reducible refine gate_callee (f := 14) rfl ?_); refine goesL_ (some 14) rfl rfl Tryz.func14 (by kernel_rfl) rfl #[.agg #[.slice Ao8 t338.length co8]] rfl sM ?_; (with_reducible refine (span_Print.calls k _ _ t338 t343 true _ ?side1 ?side2 A3.out (sH hLD HB.out)).mono ?_); (case side1 => refine (Kd.S_reads' (e := 38) (base := w.heap.size) (ok := fun k_ => True) (n := t338.length) (c := co8) ?_).2.2; exact (by refine sS ?_; exact (Kd.S_mono (Kd.S_far (p := ⟨gb342, 0, none⟩) (Kd.S_types HO340.out BK342.out (by decide)) (fun _ hk => hk.2) (.slice Ao8 t338.length co8)) (fun _ h_ => h_.1)))); (case side2 => exact (Kd.S_reads' HO340.out).2.1); rintro e w10 ⟨rfl, hb⟩; refine ⟨_, rfl, ?_⟩; have n0_ := Aside0.mk (Kd.S_below (by refine sS ?_; exact (Kd.S_mono (Kd.S_far (p := ⟨gb342, 0, none⟩) (Kd.S_types HO340.out BK342.out (by decide)) (fun _ hk => hk.2) (.slice Ao8 t338.length co8)) (fun _ h_ => h_.1))) hb); have n1_ := Aside0.mk (blk_below (g := gb342) (o := .cells #[.slice Ao8 t338.length co8] 24 (0, 0)) (by refine sB ?_; refine blk_put (cs := #[.slice none 0 0]) ?_ 0 _ rfl; refine sB ?_; exact BK342.out) hb); have n2_ := Aside0.mk (below_step (sL1 HB.out GE342.out) hb); clear HO340; clear BK342; clear HB; have HO340 := n0_; have BK342 := n1_; have HB := n2_; clear n0_ n1_ n2_; (try clear hb); (try clear hb2); (try clear hk); (try clear hi)));go_ret;exact ⟨by first | rfl | (simp [errW_none, errW_some] <;> rfl) | (simp [*, errW_none, errW_some] <;> rfl), sL1 HB.out GE342.out⟩
  ·replace c5 := Bool.eq_false_iff.mpr c5;subst c5;(have H1 : (some (⟨#[110, 111, 110, 101]⟩ : ByteArray)) = some r := by rw [if_neg (show ¬ (false = true) by decide)] at H; exact H);clear H;have H := H1;clear H1;obtain rfl := Option.some.inj H;(go_enter Tryz.func33, Tryz.ntmps33);go_wp2_with (first | ((with_reducible refine gate_callee (f := 12) rfl ?_); refine goesL_ (some 9) rfl rfl Tryz.func12 (by kernel_rfl) rfl #[.string a0] rfl sM ?_; (with_reducible refine (span_Parse.calls k a0 t338 true _ A2.out (sH hLD HB.out)).mono ?_); rintro e w11 ⟨v339, rfl, ho0, hb⟩; refine ⟨_, rfl, ?_⟩; have n0_ := Aside0.mk (Kd.S_lower ho0 (below_size (sL HB.out))); have n1_ := Aside0.mk (below_step (sL HB.out) hb); clear HB; have HO340 := n0_; have HB := n1_; clear n0_ n1_; (try clear hb); (try clear hb2); (try clear hk); (try clear hi); (try clear ho0)) | ((with_reducible refine gate_dst (N := 3) rfl ?_); refine box_event ?hg (N := 3) ?hd (cs := #[.slice none 0 0]) (t := 24) ?hr ?_; (case hd => rfl); (case hg => rfl); (case hr => first | (go_simp; done) | (go_simp; rfl)); intro gb342 hg w12 hbox hb; have n0_ := Aside0.mk (Kd.S_below (sS HO340.out) hb); have n1_ := Aside0.mk (below_step (sL HB.out) hb); have n2_ := Aside0.mk (hbox); have n3_ := Aside0.mk ((by rw [hg]; exact (below_size (sL HB.out)) : w.heap.size ≤ gb342)); have n4_ := Aside0.mk ((by rw [hg]; exact (below_size (sL HB.out)) : w.heap.size ≤ gb342)); clear HO340; clear HB; have HO340 := n0_; have HB := n1_; have BK342 := n2_; have GW342 := n3_; have GE342 := n4_; clear n0_ n1_ n2_ n3_ n4_; clear hb hbox hg; obtain ⟨Ao13, co13, eo13⟩ := Kd.S_slice HO340.out; subst eo13; have hcz14_0 : w12.cell? ⟨gb342, 0, none⟩ = some (.slice none 0 0) := (blk_cell BK342.out 0).trans rfl; have hfz14_0 := blk_frozen BK342.out 0) | ((with_reducible refine gate_callee (f := 14) rfl ?_); refine goesL_ (some 14) rfl rfl Tryz.func14 (by kernel_rfl) rfl #[.agg #[.slice Ao13 t338.length co13]] rfl sM ?_; (with_reducible refine (span_Print.calls k _ _ t338 t343 false _ ?side1 ?side2 A3.out (sH hLD HB.out)).mono ?_); (case side1 => refine (Kd.S_reads' (e := 38) (base := w.heap.size) (ok := fun k_ => True) (n := t338.length) (c := co13) ?_).2.2; exact (by refine sS ?_; exact (Kd.S_mono (Kd.S_far (p := ⟨gb342, 0, none⟩) (Kd.S_types HO340.out BK342.out (by decide)) (fun _ hk => hk.2) (.slice Ao13 t338.length co13)) (fun _ h_ => h_.1)))); (case side2 => exact (Kd.S_reads' HO340.out).2.1); rintro e w15 ⟨rfl, hb⟩; refine ⟨_, rfl, ?_⟩; have n0_ := Aside0.mk (Kd.S_below (by refine sS ?_; exact (Kd.S_mono (Kd.S_far (p := ⟨gb342, 0, none⟩) (Kd.S_types HO340.out BK342.out (by decide)) (fun _ hk => hk.2) (.slice Ao13 t338.length co13)) (fun _ h_ => h_.1))) hb); have n1_ := Aside0.mk (blk_below (g := gb342) (o := .cells #[.slice Ao13 t338.length co13] 24 (0, 0)) (by refine sB ?_; refine blk_put (cs := #[.slice none 0 0]) ?_ 0 _ rfl; refine sB ?_; exact BK342.out) hb); have n2_ := Aside0.mk (below_step (sL1 HB.out GE342.out) hb); clear HO340; clear BK342; clear HB; have HO340 := n0_; have BK342 := n1_; have HB := n2_; clear n0_ n1_ n2_; (try clear hb); (try clear hb2); (try clear hk); (try clear hi)));go_ret;exact ⟨by first | rfl | (simp [errW_none, errW_some] <;> rfl) | (simp [*, errW_none, errW_some] <;> rfl), sL1 HB.out GE342.out⟩
 ·replace c4 := Bool.eq_false_iff.mpr c4;subst c4;(have H1 : (some (⟨#[110, 111, 110, 101]⟩ : ByteArray)) = some r := by rw [if_neg (show ¬ (false = true) by decide)] at H; exact H);clear H;have H := H1;clear H1;obtain rfl := Option.some.inj H;(go_enter Tryz.func33, Tryz.ntmps33);go_wp2_with (first | ((with_reducible refine gate_callee (f := 12) rfl ?_); refine goesL_ (some 9) rfl rfl Tryz.func12 (by kernel_rfl) rfl #[.string a0] rfl sM ?_; (with_reducible refine (span_Parse.calls k a0 t338 false _ A2.out (sH hLD HB.out)).mono ?_); rintro e w16 ⟨v339, rfl, ho0, hb⟩; refine ⟨_, rfl, ?_⟩; have n0_ := Aside0.mk (Kd.S_lower ho0 (below_size (sL HB.out))); have n1_ := Aside0.mk (below_step (sL HB.out) hb); clear HB; have HO340 := n0_; have HB := n1_; clear n0_ n1_; (try clear hb); (try clear hb2); (try clear hk); (try clear hi); (try clear ho0)) | ((with_reducible refine gate_dst (N := 3) rfl ?_); refine box_event ?hg (N := 3) ?hd (cs := #[.slice none 0 0]) (t := 24) ?hr ?_; (case hd => rfl); (case hg => rfl); (case hr => first | (go_simp; done) | (go_simp; rfl)); intro gb342 hg w17 hbox hb; have n0_ := Aside0.mk (Kd.S_below (sS HO340.out) hb); have n1_ := Aside0.mk (below_step (sL HB.out) hb); have n2_ := Aside0.mk (hbox); have n3_ := Aside0.mk ((by rw [hg]; exact (below_size (sL HB.out)) : w.heap.size ≤ gb342)); have n4_ := Aside0.mk ((by rw [hg]; exact (below_size (sL HB.out)) : w.heap.size ≤ gb342)); clear HO340; clear HB; have HO340 := n0_; have HB := n1_; have BK342 := n2_; have GW342 := n3_; have GE342 := n4_; clear n0_ n1_ n2_ n3_ n4_; clear hb hbox hg; obtain ⟨Ao18, co18, eo18⟩ := Kd.S_slice HO340.out; subst eo18; have hcz19_0 : w17.cell? ⟨gb342, 0, none⟩ = some (.slice none 0 0) := (blk_cell BK342.out 0).trans rfl; have hfz19_0 := blk_frozen BK342.out 0) | ((with_reducible refine gate_callee (f := 14) rfl ?_); refine goesL_ (some 14) rfl rfl Tryz.func14 (by kernel_rfl) rfl #[.agg #[.slice Ao18 t338.length co18]] rfl sM ?_; (with_reducible refine (span_Print.calls k _ _ t338 t343 t344 _ ?side1 ?side2 A3.out (sH hLD HB.out)).mono ?_); (case side1 => refine (Kd.S_reads' (e := 38) (base := w.heap.size) (ok := fun k_ => True) (n := t338.length) (c := co18) ?_).2.2; exact (by refine sS ?_; exact (Kd.S_mono (Kd.S_far (p := ⟨gb342, 0, none⟩) (Kd.S_types HO340.out BK342.out (by decide)) (fun _ hk => hk.2) (.slice Ao18 t338.length co18)) (fun _ h_ => h_.1)))); (case side2 => exact (Kd.S_reads' HO340.out).2.1); rintro e w20 ⟨rfl, hb⟩; refine ⟨_, rfl, ?_⟩; have n0_ := Aside0.mk (Kd.S_below (by refine sS ?_; exact (Kd.S_mono (Kd.S_far (p := ⟨gb342, 0, none⟩) (Kd.S_types HO340.out BK342.out (by decide)) (fun _ hk => hk.2) (.slice Ao18 t338.length co18)) (fun _ h_ => h_.1))) hb); have n1_ := Aside0.mk (blk_below (g := gb342) (o := .cells #[.slice Ao18 t338.length co18] 24 (0, 0)) (by refine sB ?_; refine blk_put (cs := #[.slice none 0 0]) ?_ 0 _ rfl; refine sB ?_; exact BK342.out) hb); have n2_ := Aside0.mk (below_step (sL1 HB.out GE342.out) hb); clear HO340; clear BK342; clear HB; have HO340 := n0_; have BK342 := n1_; have HB := n2_; clear n0_ n1_ n2_; (try clear hb); (try clear hb2); (try clear hk); (try clear hi)));go_ret;exact ⟨by first | rfl | (simp [errW_none, errW_some] <;> rfl) | (simp [*, errW_none, errW_some] <;> rfl), sL1 HB.out GE342.out⟩
def hoggetlaw05_holds.f (k : Nat) (a0 : ByteArray) (a1 : ByteArray) : Option (Bool) := (span_Parse.f k a0).bind fun bt345 => ((version_Parse.f k a1).bind fun bt350 => (if bt345.2 = true then (if bt350.2.2.2.2 = true then ((span_Holds.f k bt345.1 bt350.1 bt350.2.1 bt350.2.2.1 bt350.2.2.2.1).bind fun t356 => (some t356)) else (some false)) else (some false)))
theorem hoggetlaw05_holds.calls (k : Nat) (a0 : ByteArray) (a1 : ByteArray) (r : Bool) (w : World) (h : hoggetlaw05_holds.f k a0 a1 = some r) (hLD : LD w) :
 Calls Tryz.prog 34 #[.string a0, .string a1] w fun e w' => e = .returned (.bool r) ∧ Below w.heap.size w w' := by
 have hu24 := Tryz.underlying24;have hu35 := Tryz.underlying35;have HB := Aside0.mk (Below.refl w.heap.size w);have H : ((span_Parse.f k a0).bind fun bt345 => ((version_Parse.f k a1).bind fun bt350 => (if bt345.2 = true then (if bt350.2.2.2.2 = true then ((span_Holds.f k bt345.1 bt350.1 bt350.2.1 bt350.2.2.1 bt350.2.2.2.1).bind fun t356 => (some t356)) else (some false)) else (some false)))) = some r := h;clear h;replace H := Option.bind_eq_some_iff.mp H;obtain ⟨⟨t345, t348⟩, A30, H⟩ := H;have A3 := Aside0.mk A30;clear A30;replace H := Option.bind_eq_some_iff.mp H;obtain ⟨⟨t350, t351, t352, t353, t354⟩, A40, H⟩ := H;have A4 := Aside0.mk A40;clear A40;by_cases c5 : t348 = true
 ·subst c5;(have H1 : (if t354 = true then ((span_Holds.f k t345 t350 t351 t352 t353).bind fun t356 => (some t356)) else (some false)) = some r := by rw [if_pos rfl] at H; exact H);clear H;have H := H1;clear H1;by_cases c6 : t354 = true
  ·subst c6;(have H1 : ((span_Holds.f k t345 t350 t351 t352 t353).bind fun t356 => (some t356)) = some r := by rw [if_pos rfl] at H; exact H);clear H;have H := H1;clear H1;replace H := Option.bind_eq_some_iff.mp H;obtain ⟨t356, A70, H⟩ := H;have A7 := Aside0.mk A70;clear A70;obtain rfl := Option.some.inj H;(go_enter Tryz.func34, Tryz.ntmps34);go_wp2_with (first | ((with_reducible refine gate_callee (f := 12) rfl ?_); refine goesL_ (some 11) rfl rfl Tryz.func12 (by kernel_rfl) rfl #[.string a0] rfl sM ?_; (with_reducible refine (span_Parse.calls k a0 t345 true _ A3.out (sH hLD HB.out)).mono ?_); rintro e w8 ⟨v346, rfl, ho0, hb⟩; refine ⟨_, rfl, ?_⟩; have n0_ := Aside0.mk (Kd.S_lower ho0 (below_size (sL HB.out))); have n1_ := Aside0.mk (below_step (sL HB.out) hb); clear HB; have HO347 := n0_; have HB := n1_; clear n0_ n1_; (try clear hb); (try clear hb2); (try clear hk); (try clear hi); (try clear ho0)) | ((with_reducible refine gate_dst (N := 5) rfl ?_); refine box_event ?hg (N := 5) ?hd (cs := #[.slice none 0 0]) (t := 24) ?hr ?_; (case hd => rfl); (case hg => rfl); (case hr => first | (go_simp; done) | (go_simp; rfl)); intro gb349 hg w9 hbox hb; have n0_ := Aside0.mk (Kd.S_below (sS HO347.out) hb); have n1_ := Aside0.mk (below_step (sL HB.out) hb); have n2_ := Aside0.mk (hbox); have n3_ := Aside0.mk ((by rw [hg]; exact (below_size (sL HB.out)) : w.heap.size ≤ gb349)); have n4_ := Aside0.mk ((by rw [hg]; exact (below_size (sL HB.out)) : w.heap.size ≤ gb349)); clear HO347; clear HB; have HO347 := n0_; have HB := n1_; have BK349 := n2_; have GW349 := n3_; have GE349 := n4_; clear n0_ n1_ n2_ n3_ n4_; clear hb hbox hg; obtain ⟨Ao10, co10, eo10⟩ := Kd.S_slice HO347.out; subst eo10; have hcz11_0 : w9.cell? ⟨gb349, 0, none⟩ = some (.slice none 0 0) := (blk_cell BK349.out 0).trans rfl; have hfz11_0 := blk_frozen BK349.out 0) | ((with_reducible refine gate_callee (f := 44) rfl ?_); refine goesL_ (some 16) rfl rfl Tryz.func44 (by kernel_rfl) rfl #[.string a1] rfl sM ?_; (with_reducible refine (version_Parse.calls k a1 t350 t351 t352 t353 true _ A4.out (sH hLD HB.out)).mono ?_); rintro e w12 ⟨rfl, hb⟩; refine ⟨_, rfl, ?_⟩; have n0_ := Aside0.mk (Kd.S_below (by refine sS ?_; exact (Kd.S_mono (Kd.S_far (p := ⟨gb349, 0, none⟩) (Kd.S_types HO347.out BK349.out (by decide)) (fun _ hk => hk.2) (.slice Ao10 t345.length co10)) (fun _ h_ => h_.1))) hb); have n1_ := Aside0.mk (blk_below (g := gb349) (o := .cells #[.slice Ao10 t345.length co10] 24 (0, 0)) (by refine sB ?_; refine blk_put (cs := #[.slice none 0 0]) ?_ 0 _ rfl; refine sB ?_; exact BK349.out) hb); have n2_ := Aside0.mk (below_step (sL1 HB.out GE349.out) hb); clear HO347; clear BK349; clear HB; have HO347 := n0_; have BK349 := n1_; have HB := n2_; clear n0_ n1_ n2_; (try clear hb); (try clear hb2); (try clear hk); (try clear hi)) | ((with_reducible refine gate_dst (N := 7) rfl ?_); refine box_event ?hg (N := 7) ?hd (cs := #[.int .i64 0, .int .i64 0, .int .i64 0, .string (⟨#[]⟩ : ByteArray)]) (t := 35) ?hr ?_; (case hd => rfl); (case hg => rfl); (case hr => first | (go_simp; done) | (go_simp; rfl)); intro gb355 hg w13 hbox hb; have n0_ := Aside0.mk (Kd.S_below (sS HO347.out) hb); have n1_ := Aside0.mk (blk_below (g := gb349) (o := .cells #[.slice Ao10 t345.length co10] 24 (0, 0)) (sB BK349.out) hb); have n2_ := Aside0.mk (below_step (sL1 HB.out GE349.out) hb); have n3_ := Aside0.mk (hbox); have n4_ := Aside0.mk ((by rw [hg]; exact (below_size (sL1 HB.out GE349.out)) : w.heap.size ≤ gb355)); have n5_ := Aside0.mk ((by rw [hg]; exact (below_size (sL1 HB.out GE349.out)) : w.heap.size ≤ gb355)); have n6_ := Aside0.mk ((by rw [hg]; exact Nat.ne_of_lt (blk_lt (g := gb349) (o := .cells #[.slice Ao10 t345.length co10] 24 (0, 0)) (sB BK349.out)) : gb349 ≠ gb355)); have n7_ := Aside0.mk ((by rw [hg]; exact Nat.ne_of_gt (blk_lt (g := gb349) (o := .cells #[.slice Ao10 t345.length co10] 24 (0, 0)) (sB BK349.out)) : gb355 ≠ gb349)); clear HO347; clear BK349; clear HB; have HO347 := n0_; have BK349 := n1_; have HB := n2_; have BK355 := n3_; have GW355 := n4_; have GE355 := n5_; have NB349_355 := n6_; have NB355_349 := n7_; clear n0_ n1_ n2_ n3_ n4_ n5_ n6_ n7_; clear hb hbox hg; have hnb14 := NB355_349.out; have hnc14 := NB349_355.out; have hcz15_0 : w13.cell? ⟨gb355, 0, none⟩ = some (.int .i64 0) := (blk_cell BK355.out 0).trans rfl; have hcz15_1 : w13.cell? ⟨gb355, 1, none⟩ = some (.int .i64 0) := (blk_cell BK355.out 1).trans rfl; have hcz15_2 : w13.cell? ⟨gb355, 2, none⟩ = some (.int .i64 0) := (blk_cell BK355.out 2).trans rfl; have hcz15_3 : w13.cell? ⟨gb355, 3, none⟩ = some (.string (⟨#[]⟩ : ByteArray)) := (blk_cell BK355.out 3).trans rfl; have hfz15_0 := blk_frozen BK355.out 0; have hfz15_1 := blk_frozen BK355.out 1; have hfz15_2 := blk_frozen BK355.out 2; have hfz15_3 := blk_frozen BK355.out 3; have hcz16_0 : w13.cell? ⟨gb349, 0, none⟩ = some (.slice Ao10 t345.length co10) := (blk_cell BK349.out 0).trans rfl; have hfz16_0 := blk_frozen BK349.out 0) | (go_at_call 19; (with_reducible refine (span_Holds.calls k _ _ t345 t350 t351 t352 t353 t356 _ ?side1 ?side2 A7.out (sH hLD HB.out)).mono ?_); (case side1 => refine (Kd.S_reads' (e := 38) (base := w.heap.size) (ok := fun k_ => True) (n := t345.length) (c := co10) ?_).2.2; exact (by refine sS ?_; exact (Kd.S_mono (Kd.S_far (p := ⟨gb355, 3, none⟩) (Kd.S_far (p := ⟨gb355, 2, none⟩) (Kd.S_far (p := ⟨gb355, 1, none⟩) (Kd.S_far (p := ⟨gb355, 0, none⟩) (Kd.S_types HO347.out BK355.out (by decide)) (fun _ hk => hk.2) (.int .i64 t350)) (fun _ hk => hk.2) (.int .i64 t351)) (fun _ hk => hk.2) (.int .i64 t352)) (fun _ hk => hk.2) (.string t353)) (fun _ h_ => h_.1)))); (case side2 => exact (Kd.S_reads' HO347.out).2.1); rintro e w17 ⟨rfl, hb⟩; have n0_ := Aside0.mk (Kd.S_below (by refine sS ?_; exact (Kd.S_mono (Kd.S_far (p := ⟨gb355, 3, none⟩) (Kd.S_far (p := ⟨gb355, 2, none⟩) (Kd.S_far (p := ⟨gb355, 1, none⟩) (Kd.S_far (p := ⟨gb355, 0, none⟩) (Kd.S_types HO347.out BK355.out (by decide)) (fun _ hk => hk.2) (.int .i64 t350)) (fun _ hk => hk.2) (.int .i64 t351)) (fun _ hk => hk.2) (.int .i64 t352)) (fun _ hk => hk.2) (.string t353)) (fun _ h_ => h_.1))) hb); have n1_ := Aside0.mk (blk_below (g := gb349) (o := .cells #[.slice Ao10 t345.length co10] 24 (0, 0)) (by refine sB ?_; refine blk_far ?_ NB349_355.out _; refine sB ?_; refine blk_far ?_ NB349_355.out _; refine sB ?_; refine blk_far ?_ NB349_355.out _; refine sB ?_; refine blk_far ?_ NB349_355.out _; refine sB ?_; exact BK349.out) hb); have n2_ := Aside0.mk (blk_below (g := gb355) (o := .cells #[.int .i64 t350, .int .i64 t351, .int .i64 t352, .string t353] 35 (0, 0)) (by refine sB ?_; refine blk_put (cs := #[.int .i64 t350, .int .i64 t351, .int .i64 t352, .string (⟨#[]⟩ : ByteArray)]) ?_ 3 _ rfl; refine sB ?_; refine blk_put (cs := #[.int .i64 t350, .int .i64 t351, .int .i64 0, .string (⟨#[]⟩ : ByteArray)]) ?_ 2 _ rfl; refine sB ?_; refine blk_put (cs := #[.int .i64 t350, .int .i64 0, .int .i64 0, .string (⟨#[]⟩ : ByteArray)]) ?_ 1 _ rfl; refine sB ?_; refine blk_put (cs := #[.int .i64 0, .int .i64 0, .int .i64 0, .string (⟨#[]⟩ : ByteArray)]) ?_ 0 _ rfl; refine sB ?_; exact BK355.out) hb); have n3_ := Aside0.mk (below_step (sL2 HB.out GE349.out GE355.out) hb); clear HO347; clear BK349; clear BK355; clear HB; have HO347 := n0_; have BK349 := n1_; have BK355 := n2_; have HB := n3_; clear n0_ n1_ n2_ n3_; (try clear hb); (try clear hb2); (try clear hk); (try clear hi)));go_ret;exact ⟨by first | rfl | (simp [errW_none, errW_some] <;> rfl) | (simp [*, errW_none, errW_some] <;> rfl), sL2 HB.out GE349.out GE355.out⟩
  ·replace c6 := Bool.eq_false_iff.mpr c6;subst c6;(have H1 : (some false) = some r := by rw [if_neg (show ¬ (false = true) by decide)] at H; exact H);clear H;have H := H1;clear H1;obtain rfl := Option.some.inj H;(go_enter Tryz.func34, Tryz.ntmps34);go_wp2_with (first | ((with_reducible refine gate_callee (f := 12) rfl ?_); refine goesL_ (some 11) rfl rfl Tryz.func12 (by kernel_rfl) rfl #[.string a0] rfl sM ?_; (with_reducible refine (span_Parse.calls k a0 t345 true _ A3.out (sH hLD HB.out)).mono ?_); rintro e w18 ⟨v346, rfl, ho0, hb⟩; refine ⟨_, rfl, ?_⟩; have n0_ := Aside0.mk (Kd.S_lower ho0 (below_size (sL HB.out))); have n1_ := Aside0.mk (below_step (sL HB.out) hb); clear HB; have HO347 := n0_; have HB := n1_; clear n0_ n1_; (try clear hb); (try clear hb2); (try clear hk); (try clear hi); (try clear ho0)) | ((with_reducible refine gate_dst (N := 5) rfl ?_); refine box_event ?hg (N := 5) ?hd (cs := #[.slice none 0 0]) (t := 24) ?hr ?_; (case hd => rfl); (case hg => rfl); (case hr => first | (go_simp; done) | (go_simp; rfl)); intro gb349 hg w19 hbox hb; have n0_ := Aside0.mk (Kd.S_below (sS HO347.out) hb); have n1_ := Aside0.mk (below_step (sL HB.out) hb); have n2_ := Aside0.mk (hbox); have n3_ := Aside0.mk ((by rw [hg]; exact (below_size (sL HB.out)) : w.heap.size ≤ gb349)); have n4_ := Aside0.mk ((by rw [hg]; exact (below_size (sL HB.out)) : w.heap.size ≤ gb349)); clear HO347; clear HB; have HO347 := n0_; have HB := n1_; have BK349 := n2_; have GW349 := n3_; have GE349 := n4_; clear n0_ n1_ n2_ n3_ n4_; clear hb hbox hg; obtain ⟨Ao20, co20, eo20⟩ := Kd.S_slice HO347.out; subst eo20; have hcz21_0 : w19.cell? ⟨gb349, 0, none⟩ = some (.slice none 0 0) := (blk_cell BK349.out 0).trans rfl; have hfz21_0 := blk_frozen BK349.out 0) | ((with_reducible refine gate_callee (f := 44) rfl ?_); refine goesL_ (some 16) rfl rfl Tryz.func44 (by kernel_rfl) rfl #[.string a1] rfl sM ?_; (with_reducible refine (version_Parse.calls k a1 t350 t351 t352 t353 false _ A4.out (sH hLD HB.out)).mono ?_); rintro e w22 ⟨rfl, hb⟩; refine ⟨_, rfl, ?_⟩; have n0_ := Aside0.mk (Kd.S_below (by refine sS ?_; exact (Kd.S_mono (Kd.S_far (p := ⟨gb349, 0, none⟩) (Kd.S_types HO347.out BK349.out (by decide)) (fun _ hk => hk.2) (.slice Ao20 t345.length co20)) (fun _ h_ => h_.1))) hb); have n1_ := Aside0.mk (blk_below (g := gb349) (o := .cells #[.slice Ao20 t345.length co20] 24 (0, 0)) (by refine sB ?_; refine blk_put (cs := #[.slice none 0 0]) ?_ 0 _ rfl; refine sB ?_; exact BK349.out) hb); have n2_ := Aside0.mk (below_step (sL1 HB.out GE349.out) hb); clear HO347; clear BK349; clear HB; have HO347 := n0_; have BK349 := n1_; have HB := n2_; clear n0_ n1_ n2_; (try clear hb); (try clear hb2); (try clear hk); (try clear hi)) | ((with_reducible refine gate_dst (N := 7) rfl ?_); refine box_event ?hg (N := 7) ?hd (cs := #[.int .i64 0, .int .i64 0, .int .i64 0, .string (⟨#[]⟩ : ByteArray)]) (t := 35) ?hr ?_; (case hd => rfl); (case hg => rfl); (case hr => first | (go_simp; done) | (go_simp; rfl)); intro gb355 hg w23 hbox hb; have n0_ := Aside0.mk (Kd.S_below (sS HO347.out) hb); have n1_ := Aside0.mk (blk_below (g := gb349) (o := .cells #[.slice Ao20 t345.length co20] 24 (0, 0)) (sB BK349.out) hb); have n2_ := Aside0.mk (below_step (sL1 HB.out GE349.out) hb); have n3_ := Aside0.mk (hbox); have n4_ := Aside0.mk ((by rw [hg]; exact (below_size (sL1 HB.out GE349.out)) : w.heap.size ≤ gb355)); have n5_ := Aside0.mk ((by rw [hg]; exact (below_size (sL1 HB.out GE349.out)) : w.heap.size ≤ gb355)); have n6_ := Aside0.mk ((by rw [hg]; exact Nat.ne_of_lt (blk_lt (g := gb349) (o := .cells #[.slice Ao20 t345.length co20] 24 (0, 0)) (sB BK349.out)) : gb349 ≠ gb355)); have n7_ := Aside0.mk ((by rw [hg]; exact Nat.ne_of_gt (blk_lt (g := gb349) (o := .cells #[.slice Ao20 t345.length co20] 24 (0, 0)) (sB BK349.out)) : gb355 ≠ gb349)); clear HO347; clear BK349; clear HB; have HO347 := n0_; have BK349 := n1_; have HB := n2_; have BK355 := n3_; have GW355 := n4_; have GE355 := n5_; have NB349_355 := n6_; have NB355_349 := n7_; clear n0_ n1_ n2_ n3_ n4_ n5_ n6_ n7_; clear hb hbox hg; have hnb24 := NB355_349.out; have hnc24 := NB349_355.out; have hcz25_0 : w23.cell? ⟨gb355, 0, none⟩ = some (.int .i64 0) := (blk_cell BK355.out 0).trans rfl; have hcz25_1 : w23.cell? ⟨gb355, 1, none⟩ = some (.int .i64 0) := (blk_cell BK355.out 1).trans rfl; have hcz25_2 : w23.cell? ⟨gb355, 2, none⟩ = some (.int .i64 0) := (blk_cell BK355.out 2).trans rfl; have hcz25_3 : w23.cell? ⟨gb355, 3, none⟩ = some (.string (⟨#[]⟩ : ByteArray)) := (blk_cell BK355.out 3).trans rfl; have hfz25_0 := blk_frozen BK355.out 0; have hfz25_1 := blk_frozen BK355.out 1; have hfz25_2 := blk_frozen BK355.out 2; have hfz25_3 := blk_frozen BK355.out 3));go_ret;exact ⟨by first | rfl | (simp [errW_none, errW_some] <;> rfl) | (simp [*, errW_none, errW_some] <;> rfl), sL2 HB.out GE349.out GE355.out⟩
 ·replace c5 := Bool.eq_false_iff.mpr c5;subst c5;(have H1 : (some false) = some r := by rw [if_neg (show ¬ (false = true) by decide)] at H; exact H);clear H;have H := H1;clear H1;obtain rfl := Option.some.inj H;(go_enter Tryz.func34, Tryz.ntmps34);go_wp2_with (first | ((with_reducible refine gate_callee (f := 12) rfl ?_); refine goesL_ (some 11) rfl rfl Tryz.func12 (by kernel_rfl) rfl #[.string a0] rfl sM ?_; (with_reducible refine (span_Parse.calls k a0 t345 false _ A3.out (sH hLD HB.out)).mono ?_); rintro e w26 ⟨v346, rfl, ho0, hb⟩; refine ⟨_, rfl, ?_⟩; have n0_ := Aside0.mk (Kd.S_lower ho0 (below_size (sL HB.out))); have n1_ := Aside0.mk (below_step (sL HB.out) hb); clear HB; have HO347 := n0_; have HB := n1_; clear n0_ n1_; (try clear hb); (try clear hb2); (try clear hk); (try clear hi); (try clear ho0)) | ((with_reducible refine gate_dst (N := 5) rfl ?_); refine box_event ?hg (N := 5) ?hd (cs := #[.slice none 0 0]) (t := 24) ?hr ?_; (case hd => rfl); (case hg => rfl); (case hr => first | (go_simp; done) | (go_simp; rfl)); intro gb349 hg w27 hbox hb; have n0_ := Aside0.mk (Kd.S_below (sS HO347.out) hb); have n1_ := Aside0.mk (below_step (sL HB.out) hb); have n2_ := Aside0.mk (hbox); have n3_ := Aside0.mk ((by rw [hg]; exact (below_size (sL HB.out)) : w.heap.size ≤ gb349)); have n4_ := Aside0.mk ((by rw [hg]; exact (below_size (sL HB.out)) : w.heap.size ≤ gb349)); clear HO347; clear HB; have HO347 := n0_; have HB := n1_; have BK349 := n2_; have GW349 := n3_; have GE349 := n4_; clear n0_ n1_ n2_ n3_ n4_; clear hb hbox hg; obtain ⟨Ao28, co28, eo28⟩ := Kd.S_slice HO347.out; subst eo28; have hcz29_0 : w27.cell? ⟨gb349, 0, none⟩ = some (.slice none 0 0) := (blk_cell BK349.out 0).trans rfl; have hfz29_0 := blk_frozen BK349.out 0) | ((with_reducible refine gate_callee (f := 44) rfl ?_); refine goesL_ (some 16) rfl rfl Tryz.func44 (by kernel_rfl) rfl #[.string a1] rfl sM ?_; (with_reducible refine (version_Parse.calls k a1 t350 t351 t352 t353 t354 _ A4.out (sH hLD HB.out)).mono ?_); rintro e w30 ⟨rfl, hb⟩; refine ⟨_, rfl, ?_⟩; have n0_ := Aside0.mk (Kd.S_below (by refine sS ?_; exact (Kd.S_mono (Kd.S_far (p := ⟨gb349, 0, none⟩) (Kd.S_types HO347.out BK349.out (by decide)) (fun _ hk => hk.2) (.slice Ao28 t345.length co28)) (fun _ h_ => h_.1))) hb); have n1_ := Aside0.mk (blk_below (g := gb349) (o := .cells #[.slice Ao28 t345.length co28] 24 (0, 0)) (by refine sB ?_; refine blk_put (cs := #[.slice none 0 0]) ?_ 0 _ rfl; refine sB ?_; exact BK349.out) hb); have n2_ := Aside0.mk (below_step (sL1 HB.out GE349.out) hb); clear HO347; clear BK349; clear HB; have HO347 := n0_; have BK349 := n1_; have HB := n2_; clear n0_ n1_ n2_; (try clear hb); (try clear hb2); (try clear hk); (try clear hi)) | ((with_reducible refine gate_dst (N := 7) rfl ?_); refine box_event ?hg (N := 7) ?hd (cs := #[.int .i64 0, .int .i64 0, .int .i64 0, .string (⟨#[]⟩ : ByteArray)]) (t := 35) ?hr ?_; (case hd => rfl); (case hg => rfl); (case hr => first | (go_simp; done) | (go_simp; rfl)); intro gb355 hg w31 hbox hb; have n0_ := Aside0.mk (Kd.S_below (sS HO347.out) hb); have n1_ := Aside0.mk (blk_below (g := gb349) (o := .cells #[.slice Ao28 t345.length co28] 24 (0, 0)) (sB BK349.out) hb); have n2_ := Aside0.mk (below_step (sL1 HB.out GE349.out) hb); have n3_ := Aside0.mk (hbox); have n4_ := Aside0.mk ((by rw [hg]; exact (below_size (sL1 HB.out GE349.out)) : w.heap.size ≤ gb355)); have n5_ := Aside0.mk ((by rw [hg]; exact (below_size (sL1 HB.out GE349.out)) : w.heap.size ≤ gb355)); have n6_ := Aside0.mk ((by rw [hg]; exact Nat.ne_of_lt (blk_lt (g := gb349) (o := .cells #[.slice Ao28 t345.length co28] 24 (0, 0)) (sB BK349.out)) : gb349 ≠ gb355)); have n7_ := Aside0.mk ((by rw [hg]; exact Nat.ne_of_gt (blk_lt (g := gb349) (o := .cells #[.slice Ao28 t345.length co28] 24 (0, 0)) (sB BK349.out)) : gb355 ≠ gb349)); clear HO347; clear BK349; clear HB; have HO347 := n0_; have BK349 := n1_; have HB := n2_; have BK355 := n3_; have GW355 := n4_; have GE355 := n5_; have NB349_355 := n6_; have NB355_349 := n7_; clear n0_ n1_ n2_ n3_ n4_ n5_ n6_ n7_; clear hb hbox hg; have hnb32 := NB355_349.out; have hnc32 := NB349_355.out; have hcz33_0 : w31.cell? ⟨gb355, 0, none⟩ = some (.int .i64 0) := (blk_cell BK355.out 0).trans rfl; have hcz33_1 : w31.cell? ⟨gb355, 1, none⟩ = some (.int .i64 0) := (blk_cell BK355.out 1).trans rfl; have hcz33_2 : w31.cell? ⟨gb355, 2, none⟩ = some (.int .i64 0) := (blk_cell BK355.out 2).trans rfl; have hcz33_3 : w31.cell? ⟨gb355, 3, none⟩ = some (.string (⟨#[]⟩ : ByteArray)) := (blk_cell BK355.out 3).trans rfl; have hfz33_0 := blk_frozen BK355.out 0; have hfz33_1 := blk_frozen BK355.out 1; have hfz33_2 := blk_frozen BK355.out 2; have hfz33_3 := blk_frozen BK355.out 3));go_ret;exact ⟨by first | rfl | (simp [errW_none, errW_some] <;> rfl) | (simp [*, errW_none, errW_some] <;> rfl), sL2 HB.out GE349.out GE355.out⟩
def hoggetlaw05_spans.j0 : Nat → Bool → Option (Bool)
  | 0, _ => none
  | k + 1, x1 => if x1 = true then ((hoggetlaw05_holds.f k (⟨#[94, 49, 46, 50, 46, 51]⟩ : ByteArray) (⟨#[49, 46, 50, 46, 52, 45, 97]⟩ : ByteArray)).bind fun t363 => (if t363 = true then (none) else ((hoggetlaw05_holds.f k (⟨#[94, 49, 46, 50, 46, 51]⟩ : ByteArray) (⟨#[49, 46, 57, 46, 48]⟩ : ByteArray)).bind fun t364 => (if t364 = true then ((hoggetlaw05_holds.f k (⟨#[62, 61, 49, 46, 50, 46, 51, 45, 97]⟩ : ByteArray) (⟨#[49, 46, 50, 46, 51, 45, 98]⟩ : ByteArray)).bind fun t365 => (if t365 = true then ((hoggetlaw05_word.f k (⟨#[49, 46, 48]⟩ : ByteArray)).bind fun t366 => (if t366.toList = ([110, 111, 110, 101] : List UInt8) then ((hoggetlaw05_word.f k (⟨#[94, 57, 57, 57, 57, 57, 57, 46, 48, 46, 48]⟩ : ByteArray)).bind fun t367 => (some (t367.toList == ([110, 111, 110, 101] : List UInt8)))) else (none))) else (none))) else (none))))) else (none)
def hoggetlaw05_spans.f (k : Nat)  : Option (Bool) := (hoggetlaw05_word.f k (⟨#[94, 49, 46, 50, 46, 51]⟩ : ByteArray)).bind fun t357 => (if t357.toList = ([62, 61, 49, 46, 50, 46, 51, 32, 60, 50, 46, 48, 46, 48] : List UInt8) then ((hoggetlaw05_word.f k (⟨#[94, 48, 46, 50, 46, 51]⟩ : ByteArray)).bind fun t358 => (if t358.toList = ([62, 61, 48, 46, 50, 46, 51, 32, 60, 48, 46, 51, 46, 48] : List UInt8) then ((hoggetlaw05_word.f k (⟨#[94, 48, 46, 48, 46, 51]⟩ : ByteArray)).bind fun t359 => (if t359.toList = ([62, 61, 48, 46, 48, 46, 51, 32, 60, 48, 46, 48, 46, 52] : List UInt8) then ((hoggetlaw05_word.f k (⟨#[126, 49, 46, 50, 46, 51]⟩ : ByteArray)).bind fun t360 => (if t360.toList = ([62, 61, 49, 46, 50, 46, 51, 32, 60, 49, 46, 51, 46, 48] : List UInt8) then ((hoggetlaw05_word.f k (⟨#[]⟩ : ByteArray)).bind fun t361 => (if t361.toList = ([42] : List UInt8) then ((hoggetlaw05_word.f k (⟨#[49, 46, 48, 46, 48, 124, 124, 62, 50, 46, 48, 46, 48, 32, 42]⟩ : ByteArray)).bind fun t362 => (hoggetlaw05_spans.j0 k (t362.toList == ([61, 49, 46, 48, 46, 48, 32, 124, 124, 32, 62, 50, 46, 48, 46, 48] : List UInt8)))) else (hoggetlaw05_spans.j0 k false))) else (hoggetlaw05_spans.j0 k false))) else (hoggetlaw05_spans.j0 k false))) else (hoggetlaw05_spans.j0 k false))) else (hoggetlaw05_spans.j0 k false))
theorem hoggetlaw05_spans.calls (k : Nat)  (r : Bool) (w : World) (h : hoggetlaw05_spans.f k  = some r) (hLD : LD w) :
 Calls Tryz.prog 16 #[] w fun e w' => e = .returned (.bool r) ∧ Below w.heap.size w w' := by
 have HB := Aside0.mk (Below.refl w.heap.size w);have H : ((hoggetlaw05_word.f k (⟨#[94, 49, 46, 50, 46, 51]⟩ : ByteArray)).bind fun t357 => (if t357.toList = ([62, 61, 49, 46, 50, 46, 51, 32, 60, 50, 46, 48, 46, 48] : List UInt8) then ((hoggetlaw05_word.f k (⟨#[94, 48, 46, 50, 46, 51]⟩ : ByteArray)).bind fun t358 => (if t358.toList = ([62, 61, 48, 46, 50, 46, 51, 32, 60, 48, 46, 51, 46, 48] : List UInt8) then ((hoggetlaw05_word.f k (⟨#[94, 48, 46, 48, 46, 51]⟩ : ByteArray)).bind fun t359 => (if t359.toList = ([62, 61, 48, 46, 48, 46, 51, 32, 60, 48, 46, 48, 46, 52] : List UInt8) then ((hoggetlaw05_word.f k (⟨#[126, 49, 46, 50, 46, 51]⟩ : ByteArray)).bind fun t360 => (if t360.toList = ([62, 61, 49, 46, 50, 46, 51, 32, 60, 49, 46, 51, 46, 48] : List UInt8) then ((hoggetlaw05_word.f k (⟨#[]⟩ : ByteArray)).bind fun t361 => (if t361.toList = ([42] : List UInt8) then ((hoggetlaw05_word.f k (⟨#[49, 46, 48, 46, 48, 124, 124, 62, 50, 46, 48, 46, 48, 32, 42]⟩ : ByteArray)).bind fun t362 => (hoggetlaw05_spans.j0 k (t362.toList == ([61, 49, 46, 48, 46, 48, 32, 124, 124, 32, 62, 50, 46, 48, 46, 48] : List UInt8)))) else (hoggetlaw05_spans.j0 k false))) else (hoggetlaw05_spans.j0 k false))) else (hoggetlaw05_spans.j0 k false))) else (hoggetlaw05_spans.j0 k false))) else (hoggetlaw05_spans.j0 k false))) = some r := h;clear h;have HC1 := Aside0.mk H;clear H;(go_enter Tryz.func16, Tryz.ntmps16);(go_upto_region 1 with (fail));go_cut [1] (fun v1 wc => ∃ (kq : Nat) (x1_0 : Bool), v1 = .bool x1_0 ∧ Aside0 (hoggetlaw05_spans.j0 kq x1_0 = some r) ∧ Aside0 (kq ≤ k) ∧ Aside0 (Below w.heap.size w wc))
 case first =>
  have H := HC1.out;clear HC1;replace H := Option.bind_eq_some_iff.mp H;obtain ⟨t357, A20, H⟩ := H;have A2 := Aside0.mk A20;clear A20;by_cases c3 : t357.toList = ([62, 61, 49, 46, 50, 46, 51, 32, 60, 50, 46, 48, 46, 48] : List UInt8)
  ·rw [if_pos c3] at H;have c3b0 := beq_iff_eq.mpr c3;have c3b1 := bne_eq_false_iff_eq.mpr c3;clear c3;(first | rw [c3b0] | (simp only [i64_w, i32_w]; rw [c3b0]) | skip);replace H := Option.bind_eq_some_iff.mp H;obtain ⟨t358, A40, H⟩ := H;have A4 := Aside0.mk A40;clear A40;by_cases c5 : t358.toList = ([62, 61, 48, 46, 50, 46, 51, 32, 60, 48, 46, 51, 46, 48] : List UInt8)
   ·rw [if_pos c5] at H;have c5b0 := beq_iff_eq.mpr c5;have c5b1 := bne_eq_false_iff_eq.mpr c5;clear c5;replace H := Option.bind_eq_some_iff.mp H;obtain ⟨t359, A60, H⟩ := H;have A6 := Aside0.mk A60;clear A60;by_cases c7 : t359.toList = ([62, 61, 48, 46, 48, 46, 51, 32, 60, 48, 46, 48, 46, 52] : List UInt8)
    ·rw [if_pos c7] at H;have c7b0 := beq_iff_eq.mpr c7;have c7b1 := bne_eq_false_iff_eq.mpr c7;clear c7;replace H := Option.bind_eq_some_iff.mp H;obtain ⟨t360, A80, H⟩ := H;have A8 := Aside0.mk A80;clear A80;by_cases c9 : t360.toList = ([62, 61, 49, 46, 50, 46, 51, 32, 60, 49, 46, 51, 46, 48] : List UInt8)
     ·rw [if_pos c9] at H;have c9b0 := beq_iff_eq.mpr c9;have c9b1 := bne_eq_false_iff_eq.mpr c9;clear c9;replace H := Option.bind_eq_some_iff.mp H;obtain ⟨t361, A100, H⟩ := H;have A10 := Aside0.mk A100;clear A100;by_cases c11 : t361.toList = ([42] : List UInt8)
      ·rw [if_pos c11] at H;have c11b0 := beq_iff_eq.mpr c11;have c11b1 := bne_eq_false_iff_eq.mpr c11;clear c11;replace H := Option.bind_eq_some_iff.mp H;obtain ⟨t362, A120, H⟩ := H;have A12 := Aside0.mk A120;clear A120;have H' := Aside0.mk H;clear H;go_wp2_with (first | ((with_reducible refine gate_callee (f := 33) rfl ?_); refine goesL_ (some 2) rfl rfl Tryz.func33 (by kernel_rfl) rfl #[.string (⟨#[94, 49, 46, 50, 46, 51]⟩ : ByteArray)] rfl sM ?_; (with_reducible refine (hoggetlaw05_word.calls k (⟨#[94, 49, 46, 50, 46, 51]⟩ : ByteArray) t357 _ A2.out (sH hLD HB.out)).mono ?_); rintro e w13 ⟨rfl, hb⟩; refine ⟨_, rfl, ?_⟩; have n0_ := Aside0.mk (below_step (sL HB.out) hb); clear HB; have HB := n0_; clear n0_; (try clear hb); (try clear hb2); (try clear hk); (try clear hi)) | (go_at_call 33; (with_reducible refine (hoggetlaw05_word.calls k (⟨#[94, 48, 46, 50, 46, 51]⟩ : ByteArray) t358 _ A4.out (sH hLD HB.out)).mono ?_); rintro e w14 ⟨rfl, hb⟩; have n0_ := Aside0.mk (below_step (sL HB.out) hb); clear HB; have HB := n0_; clear n0_; (try clear hb); (try clear hb2); (try clear hk); (try clear hi)) | (go_at_call 33; (with_reducible refine (hoggetlaw05_word.calls k (⟨#[94, 48, 46, 48, 46, 51]⟩ : ByteArray) t359 _ A6.out (sH hLD HB.out)).mono ?_); rintro e w15 ⟨rfl, hb⟩; have n0_ := Aside0.mk (below_step (sL HB.out) hb); clear HB; have HB := n0_; clear n0_; (try clear hb); (try clear hb2); (try clear hk); (try clear hi)) | (go_at_call 33; (with_reducible refine (hoggetlaw05_word.calls k (⟨#[126, 49, 46, 50, 46, 51]⟩ : ByteArray) t360 _ A8.out (sH hLD HB.out)).mono ?_); rintro e w16 ⟨rfl, hb⟩; have n0_ := Aside0.mk (below_step (sL HB.out) hb); clear HB; have HB := n0_; clear n0_; (try clear hb); (try clear hb2); (try clear hk); (try clear hi)) | (go_at_call 33; (with_reducible refine (hoggetlaw05_word.calls k (⟨#[]⟩ : ByteArray) t361 _ A10.out (sH hLD HB.out)).mono ?_); rintro e w17 ⟨rfl, hb⟩; have n0_ := Aside0.mk (below_step (sL HB.out) hb); clear HB; have HB := n0_; clear n0_; (try clear hb); (try clear hb2); (try clear hk); (try clear hi)) | (go_at_call 33; (with_reducible refine (hoggetlaw05_word.calls k (⟨#[49, 46, 48, 46, 48, 124, 124, 62, 50, 46, 48, 46, 48, 32, 42]⟩ : ByteArray) t362 _ A12.out (sH hLD HB.out)).mono ?_); rintro e w18 ⟨rfl, hb⟩; have n0_ := Aside0.mk (below_step (sL HB.out) hb); clear HB; have HB := n0_; clear n0_; (try clear hb); (try clear hb2); (try clear hk); (try clear hi)));go_meet;(case rel => exact ⟨_, ((t362.toList == ([61, 49, 46, 48, 46, 48, 32, 124, 124, 32, 62, 50, 46, 48, 46, 48] : List UInt8))), sE, H', ⟨by first | omega | exact Nat.le_refl _⟩, ⟨sL HB.out⟩⟩)
      ·rw [if_neg c11] at H;have c11b0 := beq_eq_false_iff_ne.mpr c11;have c11b1 := bne_iff_ne.mpr c11;have H' := Aside0.mk H;clear H;go_wp2_with (first | ((with_reducible refine gate_callee (f := 33) rfl ?_); refine goesL_ (some 2) rfl rfl Tryz.func33 (by kernel_rfl) rfl #[.string (⟨#[94, 49, 46, 50, 46, 51]⟩ : ByteArray)] rfl sM ?_; (with_reducible refine (hoggetlaw05_word.calls k (⟨#[94, 49, 46, 50, 46, 51]⟩ : ByteArray) t357 _ A2.out (sH hLD HB.out)).mono ?_); rintro e w19 ⟨rfl, hb⟩; refine ⟨_, rfl, ?_⟩; have n0_ := Aside0.mk (below_step (sL HB.out) hb); clear HB; have HB := n0_; clear n0_; (try clear hb); (try clear hb2); (try clear hk); (try clear hi)) | (go_at_call 33; (with_reducible refine (hoggetlaw05_word.calls k (⟨#[94, 48, 46, 50, 46, 51]⟩ : ByteArray) t358 _ A4.out (sH hLD HB.out)).mono ?_); rintro e w20 ⟨rfl, hb⟩; have n0_ := Aside0.mk (below_step (sL HB.out) hb); clear HB; have HB := n0_; clear n0_; (try clear hb); (try clear hb2); (try clear hk); (try clear hi)) | (go_at_call 33; (with_reducible refine (hoggetlaw05_word.calls k (⟨#[94, 48, 46, 48, 46, 51]⟩ : ByteArray) t359 _ A6.out (sH hLD HB.out)).mono ?_); rintro e w21 ⟨rfl, hb⟩; have n0_ := Aside0.mk (below_step (sL HB.out) hb); clear HB; have HB := n0_; clear n0_; (try clear hb); (try clear hb2); (try clear hk); (try clear hi)) | (go_at_call 33; (with_reducible refine (hoggetlaw05_word.calls k (⟨#[126, 49, 46, 50, 46, 51]⟩ : ByteArray) t360 _ A8.out (sH hLD HB.out)).mono ?_); rintro e w22 ⟨rfl, hb⟩; have n0_ := Aside0.mk (below_step (sL HB.out) hb); clear HB; have HB := n0_; clear n0_; (try clear hb); (try clear hb2); (try clear hk); (try clear hi)) | (go_at_call 33; (with_reducible refine (hoggetlaw05_word.calls k (⟨#[]⟩ : ByteArray) t361 _ A10.out (sH hLD HB.out)).mono ?_); rintro e w23 ⟨rfl, hb⟩; have n0_ := Aside0.mk (below_step (sL HB.out) hb); clear HB; have HB := n0_; clear n0_; (try clear hb); (try clear hb2); (try clear hk); (try clear hi)));go_meet;(case rel => exact ⟨_, (false), sE, H', ⟨by first | omega | exact Nat.le_refl _⟩, ⟨sL HB.out⟩⟩)
     ·rw [if_neg c9] at H;have c9b0 := beq_eq_false_iff_ne.mpr c9;have c9b1 := bne_iff_ne.mpr c9;have H' := Aside0.mk H;clear H;go_wp2_with (first | ((with_reducible refine gate_callee (f := 33) rfl ?_); refine goesL_ (some 2) rfl rfl Tryz.func33 (by kernel_rfl) rfl #[.string (⟨#[94, 49, 46, 50, 46, 51]⟩ : ByteArray)] rfl sM ?_; (with_reducible refine (hoggetlaw05_word.calls k (⟨#[94, 49, 46, 50, 46, 51]⟩ : ByteArray) t357 _ A2.out (sH hLD HB.out)).mono ?_); rintro e w24 ⟨rfl, hb⟩; refine ⟨_, rfl, ?_⟩; have n0_ := Aside0.mk (below_step (sL HB.out) hb); clear HB; have HB := n0_; clear n0_; (try clear hb); (try clear hb2); (try clear hk); (try clear hi)) | (go_at_call 33; (with_reducible refine (hoggetlaw05_word.calls k (⟨#[94, 48, 46, 50, 46, 51]⟩ : ByteArray) t358 _ A4.out (sH hLD HB.out)).mono ?_); rintro e w25 ⟨rfl, hb⟩; have n0_ := Aside0.mk (below_step (sL HB.out) hb); clear HB; have HB := n0_; clear n0_; (try clear hb); (try clear hb2); (try clear hk); (try clear hi)) | (go_at_call 33; (with_reducible refine (hoggetlaw05_word.calls k (⟨#[94, 48, 46, 48, 46, 51]⟩ : ByteArray) t359 _ A6.out (sH hLD HB.out)).mono ?_); rintro e w26 ⟨rfl, hb⟩; have n0_ := Aside0.mk (below_step (sL HB.out) hb); clear HB; have HB := n0_; clear n0_; (try clear hb); (try clear hb2); (try clear hk); (try clear hi)) | (go_at_call 33; (with_reducible refine (hoggetlaw05_word.calls k (⟨#[126, 49, 46, 50, 46, 51]⟩ : ByteArray) t360 _ A8.out (sH hLD HB.out)).mono ?_); rintro e w27 ⟨rfl, hb⟩; have n0_ := Aside0.mk (below_step (sL HB.out) hb); clear HB; have HB := n0_; clear n0_; (try clear hb); (try clear hb2); (try clear hk); (try clear hi)));go_meet;(case rel => exact ⟨_, (false), sE, H', ⟨by first | omega | exact Nat.le_refl _⟩, ⟨sL HB.out⟩⟩)
    ·rw [if_neg c7] at H;have c7b0 := beq_eq_false_iff_ne.mpr c7;have c7b1 := bne_iff_ne.mpr c7;have H' := Aside0.mk H;clear H;go_wp2_with (first | ((with_reducible refine gate_callee (f := 33) rfl ?_); refine goesL_ (some 2) rfl rfl Tryz.func33 (by kernel_rfl) rfl #[.string (⟨#[94, 49, 46, 50, 46, 51]⟩ : ByteArray)] rfl sM ?_; (with_reducible refine (hoggetlaw05_word.calls k (⟨#[94, 49, 46, 50, 46, 51]⟩ : ByteArray) t357 _ A2.out (sH hLD HB.out)).mono ?_); rintro e w28 ⟨rfl, hb⟩; refine ⟨_, rfl, ?_⟩; have n0_ := Aside0.mk (below_step (sL HB.out) hb); clear HB; have HB := n0_; clear n0_; (try clear hb); (try clear hb2); (try clear hk); (try clear hi)) | (go_at_call 33; (with_reducible refine (hoggetlaw05_word.calls k (⟨#[94, 48, 46, 50, 46, 51]⟩ : ByteArray) t358 _ A4.out (sH hLD HB.out)).mono ?_); rintro e w29 ⟨rfl, hb⟩; have n0_ := Aside0.mk (below_step (sL HB.out) hb); clear HB; have HB := n0_; clear n0_; (try clear hb); (try clear hb2); (try clear hk); (try clear hi)) | (go_at_call 33; (with_reducible refine (hoggetlaw05_word.calls k (⟨#[94, 48, 46, 48, 46, 51]⟩ : ByteArray) t359 _ A6.out (sH hLD HB.out)).mono ?_); rintro e w30 ⟨rfl, hb⟩; have n0_ := Aside0.mk (below_step (sL HB.out) hb); clear HB; have HB := n0_; clear n0_; (try clear hb); (try clear hb2); (try clear hk); (try clear hi)));go_meet;(case rel => exact ⟨_, (false), sE, H', ⟨by first | omega | exact Nat.le_refl _⟩, ⟨sL HB.out⟩⟩)
   ·rw [if_neg c5] at H;have c5b0 := beq_eq_false_iff_ne.mpr c5;have c5b1 := bne_iff_ne.mpr c5;have H' := Aside0.mk H;clear H;go_wp2_with (first | ((with_reducible refine gate_callee (f := 33) rfl ?_); refine goesL_ (some 2) rfl rfl Tryz.func33 (by kernel_rfl) rfl #[.string (⟨#[94, 49, 46, 50, 46, 51]⟩ : ByteArray)] rfl sM ?_; (with_reducible refine (hoggetlaw05_word.calls k (⟨#[94, 49, 46, 50, 46, 51]⟩ : ByteArray) t357 _ A2.out (sH hLD HB.out)).mono ?_); rintro e w31 ⟨rfl, hb⟩; refine ⟨_, rfl, ?_⟩; have n0_ := Aside0.mk (below_step (sL HB.out) hb); clear HB; have HB := n0_; clear n0_; (try clear hb); (try clear hb2); (try clear hk); (try clear hi)) | (go_at_call 33; (with_reducible refine (hoggetlaw05_word.calls k (⟨#[94, 48, 46, 50, 46, 51]⟩ : ByteArray) t358 _ A4.out (sH hLD HB.out)).mono ?_); rintro e w32 ⟨rfl, hb⟩; have n0_ := Aside0.mk (below_step (sL HB.out) hb); clear HB; have HB := n0_; clear n0_; (try clear hb); (try clear hb2); (try clear hk); (try clear hi)));go_meet;(case rel => exact ⟨_, (false), sE, H', ⟨by first | omega | exact Nat.le_refl _⟩, ⟨sL HB.out⟩⟩)
  ·rw [if_neg c3] at H;have c3b0 := beq_eq_false_iff_ne.mpr c3;have c3b1 := bne_iff_ne.mpr c3;(first | rw [c3b0] | (simp only [i64_w, i32_w]; rw [c3b0]) | skip);have H' := Aside0.mk H;clear H;go_wp2_with (first | ((with_reducible refine gate_callee (f := 33) rfl ?_); refine goesL_ (some 2) rfl rfl Tryz.func33 (by kernel_rfl) rfl #[.string (⟨#[94, 49, 46, 50, 46, 51]⟩ : ByteArray)] rfl sM ?_; (with_reducible refine (hoggetlaw05_word.calls k (⟨#[94, 49, 46, 50, 46, 51]⟩ : ByteArray) t357 _ A2.out (sH hLD HB.out)).mono ?_); rintro e w33 ⟨rfl, hb⟩; refine ⟨_, rfl, ?_⟩; have n0_ := Aside0.mk (below_step (sL HB.out) hb); clear HB; have HB := n0_; clear n0_; (try clear hb); (try clear hb2); (try clear hk); (try clear hi)));go_meet;(case rel => exact ⟨_, (false), sE, H', ⟨by first | omega | exact Nat.le_refl _⟩, ⟨sL HB.out⟩⟩)
 case rest =>
  clear HC1;(try clear c1);(try clear p2);(try clear c3);(try clear c3b0);(try clear c3b1);(try clear c5);(try clear c5b0);(try clear c5b1);(try clear c7);(try clear c7b0);(try clear c7b1);(try clear c9);(try clear c9b0);(try clear c9b1);(try clear c11);(try clear c11b0);(try clear c11b1);(try clear c16);(try clear c33);obtain ⟨kq, x1_0, rfl, HA, HJ0, HB⟩ := hcut
  cases kq with
  | zero => exact absurd HA.out (by simp [hoggetlaw05_spans.j0])
  | succ kj0 =>
   have H := HA.out;clear HA;simp only [hoggetlaw05_spans.j0] at H;by_cases c34 : x1_0 = true
   ·subst c34;(have H1 : ((hoggetlaw05_holds.f kj0 (⟨#[94, 49, 46, 50, 46, 51]⟩ : ByteArray) (⟨#[49, 46, 50, 46, 52, 45, 97]⟩ : ByteArray)).bind fun t363 => (if t363 = true then (none) else ((hoggetlaw05_holds.f kj0 (⟨#[94, 49, 46, 50, 46, 51]⟩ : ByteArray) (⟨#[49, 46, 57, 46, 48]⟩ : ByteArray)).bind fun t364 => (if t364 = true then ((hoggetlaw05_holds.f kj0 (⟨#[62, 61, 49, 46, 50, 46, 51, 45, 97]⟩ : ByteArray) (⟨#[49, 46, 50, 46, 51, 45, 98]⟩ : ByteArray)).bind fun t365 => (if t365 = true then ((hoggetlaw05_word.f kj0 (⟨#[49, 46, 48]⟩ : ByteArray)).bind fun t366 => (if t366.toList = ([110, 111, 110, 101] : List UInt8) then ((hoggetlaw05_word.f kj0 (⟨#[94, 57, 57, 57, 57, 57, 57, 46, 48, 46, 48]⟩ : ByteArray)).bind fun t367 => (some (t367.toList == ([110, 111, 110, 101] : List UInt8)))) else (none))) else (none))) else (none))))) = some r := by rw [if_pos rfl] at H; exact H);clear H;have H := H1;clear H1;replace H := Option.bind_eq_some_iff.mp H;obtain ⟨t363, A350, H⟩ := H;have A35 := Aside0.mk A350;clear A350;by_cases c36 : t363 = true
    ·subst c36;(have H1 : (none) = some r := by rw [if_pos rfl] at H; exact H);clear H;have H := H1;clear H1;exact absurd H (by simp)
    ·replace c36 := Bool.eq_false_iff.mpr c36;subst c36;(have H1 : ((hoggetlaw05_holds.f kj0 (⟨#[94, 49, 46, 50, 46, 51]⟩ : ByteArray) (⟨#[49, 46, 57, 46, 48]⟩ : ByteArray)).bind fun t364 => (if t364 = true then ((hoggetlaw05_holds.f kj0 (⟨#[62, 61, 49, 46, 50, 46, 51, 45, 97]⟩ : ByteArray) (⟨#[49, 46, 50, 46, 51, 45, 98]⟩ : ByteArray)).bind fun t365 => (if t365 = true then ((hoggetlaw05_word.f kj0 (⟨#[49, 46, 48]⟩ : ByteArray)).bind fun t366 => (if t366.toList = ([110, 111, 110, 101] : List UInt8) then ((hoggetlaw05_word.f kj0 (⟨#[94, 57, 57, 57, 57, 57, 57, 46, 48, 46, 48]⟩ : ByteArray)).bind fun t367 => (some (t367.toList == ([110, 111, 110, 101] : List UInt8)))) else (none))) else (none))) else (none))) = some r := by rw [if_neg (show ¬ (false = true) by decide)] at H; exact H);clear H;have H := H1;clear H1;replace H := Option.bind_eq_some_iff.mp H;obtain ⟨t364, A380, H⟩ := H;have A38 := Aside0.mk A380;clear A380;by_cases c39 : t364 = true
     ·subst c39;(have H1 : ((hoggetlaw05_holds.f kj0 (⟨#[62, 61, 49, 46, 50, 46, 51, 45, 97]⟩ : ByteArray) (⟨#[49, 46, 50, 46, 51, 45, 98]⟩ : ByteArray)).bind fun t365 => (if t365 = true then ((hoggetlaw05_word.f kj0 (⟨#[49, 46, 48]⟩ : ByteArray)).bind fun t366 => (if t366.toList = ([110, 111, 110, 101] : List UInt8) then ((hoggetlaw05_word.f kj0 (⟨#[94, 57, 57, 57, 57, 57, 57, 46, 48, 46, 48]⟩ : ByteArray)).bind fun t367 => (some (t367.toList == ([110, 111, 110, 101] : List UInt8)))) else (none))) else (none))) = some r := by rw [if_pos rfl] at H; exact H);clear H;have H := H1;clear H1;replace H := Option.bind_eq_some_iff.mp H;obtain ⟨t365, A400, H⟩ := H;have A40 := Aside0.mk A400;clear A400;by_cases c41 : t365 = true
      ·subst c41;(have H1 : ((hoggetlaw05_word.f kj0 (⟨#[49, 46, 48]⟩ : ByteArray)).bind fun t366 => (if t366.toList = ([110, 111, 110, 101] : List UInt8) then ((hoggetlaw05_word.f kj0 (⟨#[94, 57, 57, 57, 57, 57, 57, 46, 48, 46, 48]⟩ : ByteArray)).bind fun t367 => (some (t367.toList == ([110, 111, 110, 101] : List UInt8)))) else (none))) = some r := by rw [if_pos rfl] at H; exact H);clear H;have H := H1;clear H1;replace H := Option.bind_eq_some_iff.mp H;obtain ⟨t366, A420, H⟩ := H;have A42 := Aside0.mk A420;clear A420;by_cases c43 : t366.toList = ([110, 111, 110, 101] : List UInt8)
       ·rw [if_pos c43] at H;have c43b0 := beq_iff_eq.mpr c43;have c43b1 := bne_eq_false_iff_eq.mpr c43;clear c43;replace H := Option.bind_eq_some_iff.mp H;obtain ⟨t367, A440, H⟩ := H;have A44 := Aside0.mk A440;clear A440;obtain rfl := Option.some.inj H;go_wp2_with (first | (go_at_call 34; (with_reducible refine (hoggetlaw05_holds.calls kj0 (⟨#[94, 49, 46, 50, 46, 51]⟩ : ByteArray) (⟨#[49, 46, 50, 46, 52, 45, 97]⟩ : ByteArray) false _ A35.out (sH hLD HB.out)).mono ?_); rintro e w45 ⟨rfl, hb⟩; have n0_ := Aside0.mk (below_step (sL HB.out) hb); clear HB; have HB := n0_; clear n0_; (try clear hb); (try clear hb2); (try clear hk); (try clear hi)) | (go_at_call 34; (with_reducible refine (hoggetlaw05_holds.calls kj0 (⟨#[94, 49, 46, 50, 46, 51]⟩ : ByteArray) (⟨#[49, 46, 57, 46, 48]⟩ : ByteArray) true _ A38.out (sH hLD HB.out)).mono ?_); rintro e w46 ⟨rfl, hb⟩; have n0_ := Aside0.mk (below_step (sL HB.out) hb); clear HB; have HB := n0_; clear n0_; (try clear hb); (try clear hb2); (try clear hk); (try clear hi)) | (go_at_call 34; (with_reducible refine (hoggetlaw05_holds.calls kj0 (⟨#[62, 61, 49, 46, 50, 46, 51, 45, 97]⟩ : ByteArray) (⟨#[49, 46, 50, 46, 51, 45, 98]⟩ : ByteArray) true _ A40.out (sH hLD HB.out)).mono ?_); rintro e w47 ⟨rfl, hb⟩; have n0_ := Aside0.mk (below_step (sL HB.out) hb); clear HB; have HB := n0_; clear n0_; (try clear hb); (try clear hb2); (try clear hk); (try clear hi)) | (go_at_call 33; (with_reducible refine (hoggetlaw05_word.calls kj0 (⟨#[49, 46, 48]⟩ : ByteArray) t366 _ A42.out (sH hLD HB.out)).mono ?_); rintro e w48 ⟨rfl, hb⟩; have n0_ := Aside0.mk (below_step (sL HB.out) hb); clear HB; have HB := n0_; clear n0_; (try clear hb); (try clear hb2); (try clear hk); (try clear hi)) | (go_at_call 33; (with_reducible refine (hoggetlaw05_word.calls kj0 (⟨#[94, 57, 57, 57, 57, 57, 57, 46, 48, 46, 48]⟩ : ByteArray) t367 _ A44.out (sH hLD HB.out)).mono ?_); rintro e w49 ⟨rfl, hb⟩; have n0_ := Aside0.mk (below_step (sL HB.out) hb); clear HB; have HB := n0_; clear n0_; (try clear hb); (try clear hb2); (try clear hk); (try clear hi)));go_ret;exact ⟨by first | rfl | (simp [errW_none, errW_some] <;> rfl) | (simp [*, errW_none, errW_some] <;> rfl), sL HB.out⟩
       ·rw [if_neg c43] at H;have c43b0 := beq_eq_false_iff_ne.mpr c43;have c43b1 := bne_iff_ne.mpr c43;exact absurd H (by simp)
      ·replace c41 := Bool.eq_false_iff.mpr c41;subst c41;(have H1 : (none) = some r := by rw [if_neg (show ¬ (false = true) by decide)] at H; exact H);clear H;have H := H1;clear H1;exact absurd H (by simp)
     ·replace c39 := Bool.eq_false_iff.mpr c39;subst c39;(have H1 : (none) = some r := by rw [if_neg (show ¬ (false = true) by decide)] at H; exact H);clear H;have H := H1;clear H1;exact absurd H (by simp)
   ·replace c34 := Bool.eq_false_iff.mpr c34;subst c34;(have H1 : (none) = some r := by rw [if_neg (show ¬ (false = true) by decide)] at H; exact H);clear H;have H := H1;clear H1;exact absurd H (by simp)
end Go.Proofs.YtijooffpjfhidaaGreatDoor.G
end
section
namespace Go.Proofs.YtijooffpjfhidaaGreatDoor.G
open Go.RowKit Go.Proofs.YtijooffpjfhidaaGreatDoorW.PrintWords Go.Proofs.YtijooffpjfhidaaGreatDoorW.PrintLast Go.Proofs.YtijooffpjfhidaaGreatDoorW.PrintMore
set_option linter.unusedVariables false
set_option linter.unusedSimpArgs false
def hoggetlaw05_SpanPlain.f (k : Nat) (a0_0 : Int) (a0_1 : Int) (a0_2 : Int) (a0_3 : ByteArray) (a1_0 : Int) (a1_1 : Int) (a1_2 : Int) (a1_3 : ByteArray) : Option Bool :=
  if 300 < (a0_3.size : Int) then some true else if 300 < (a1_3.size : Int) then some true else
  (version_Print.f k a0_0 a0_1 a0_2 ⟨#[]⟩).bind fun pa => (version_Print.f k a1_0 a1_1 a1_2 a1_3).bind fun pb => (hoggetlaw05_spans.f k).bind fun vs =>
  if vs = false then none else if pa.2 = false then some true else if pb.2 = false then some true else
  (span_Holds.f k [[(⟨1, ⟨a1_0, a1_1, a1_2, a1_3⟩⟩ : S45)]] a0_0 a0_1 a0_2 ⟨#[]⟩).bind fun h1 => (span_Holds.f k [[(⟨2, ⟨a1_0, a1_1, a1_2, a1_3⟩⟩ : S45)]] a0_0 a0_1 a0_2 ⟨#[]⟩).bind fun h2 => (span_Holds.f k [[(⟨3, ⟨a1_0, a1_1, a1_2, a1_3⟩⟩ : S45)]] a0_0 a0_1 a0_2 ⟨#[]⟩).bind fun h3 => (span_Holds.f k [[(⟨4, ⟨a1_0, a1_1, a1_2, a1_3⟩⟩ : S45)]] a0_0 a0_1 a0_2 ⟨#[]⟩).bind fun h4 => (span_Holds.f k [[(⟨5, ⟨a1_0, a1_1, a1_2, a1_3⟩⟩ : S45)]] a0_0 a0_1 a0_2 ⟨#[]⟩).bind fun h5 => (span_Holds.f k [[]] a0_0 a0_1 a0_2 ⟨#[]⟩).bind fun h0 =>
  if h0 = true ∧ (h2 != h5) = true ∧ (h3 != h4) = true ∧ (h1 == (h3 && h5)) = true then some true else none
def hoggetlaw05_SpanPlain.St (w : World) (vc wc : Array Value) (W : World) : Prop :=
  W.heap[w.heap.size]? = some (.cells vc 35 (0, 0)) ∧ W.heap[w.heap.size + 1]? = some (.cells wc 35 (0, 0)) ∧ Below w.heap.size w W ∧ LD w
theorem hoggetlaw05_SpanPlain.St.below {w : World} {vc wc : Array Value} {W W' : World} (h : hoggetlaw05_SpanPlain.St w vc wc W) (hb : Below W.heap.size W W') : hoggetlaw05_SpanPlain.St w vc wc W' := by
  obtain ⟨h1, h2, h3, h4⟩ := h
  have l1 := (Array.getElem?_eq_some_iff.1 h1).1
  have l2 := (Array.getElem?_eq_some_iff.1 h2).1
  exact ⟨(hb.block _ l1).trans h1, (hb.block _ l2).trans h2, h3.trans (hb.mono h3.size), h4⟩
theorem hoggetlaw05_SpanPlain.St.ld {w : World} {vc wc : Array Value} {W : World} (h : hoggetlaw05_SpanPlain.St w vc wc W) : LD W := h.2.2.2.below h.2.2.1
theorem hoggetlaw05_SpanPlain.St.alloc {w : World} {vc wc : Array Value} {W : World} (h : hoggetlaw05_SpanPlain.St w vc wc W) (o : Obj) : hoggetlaw05_SpanPlain.St w vc wc (W.alloc o) := h.below ((Below.refl _ W).alloc (Nat.le_refl _) o)
theorem hoggetlaw05_SpanPlain.St.first {w : World} {vc wc : Array Value} (h : LD w) (o3 o4 : Obj) : hoggetlaw05_SpanPlain.St w vc wc ((((w.alloc (.cells vc 35)).alloc (.cells wc 35)).alloc o3).alloc o4) := by
  have h0 : hoggetlaw05_SpanPlain.St w vc wc ((w.alloc (.cells vc 35)).alloc (.cells wc 35)) := by
    have hb : Below w.heap.size w ((w.alloc (.cells vc 35)).alloc (.cells wc 35)) := ((Below.refl _ w).alloc (Nat.le_refl _) _).alloc (by simp) _
    refine ⟨?_, ?_, hb, h⟩
    · exact (Below.heap_alloc _ _ _ (by simp)).trans (World.alloc_heap_new w _)
    · have := World.alloc_heap_new (w.alloc (.cells vc 35)) (.cells wc 35)
      rw [World.size_alloc] at this
      exact this
  exact (h0.alloc o3).alloc o4
theorem hoggetlaw05_SpanPlain.St.reads {w : World} {a0 a1 a2 a3 b0 b1 b2 b3 : Value} {W : World} (h : hoggetlaw05_SpanPlain.St w #[a0, a1, a2, a3] #[b0, b1, b2, b3] W) :
    (W.cell? ⟨w.heap.size, 0, none⟩ = some a0 ∧ W.cell? ⟨w.heap.size, 1, none⟩ = some a1 ∧ W.cell? ⟨w.heap.size, 2, none⟩ = some a2 ∧ W.cell? ⟨w.heap.size, 3, none⟩ = some a3) ∧
    (W.cell? ⟨w.heap.size + 1, 0, none⟩ = some b0 ∧ W.cell? ⟨w.heap.size + 1, 1, none⟩ = some b1 ∧ W.cell? ⟨w.heap.size + 1, 2, none⟩ = some b2 ∧ W.cell? ⟨w.heap.size + 1, 3, none⟩ = some b3) :=
  ⟨⟨span_Holds.cells h.1 0 _ rfl, span_Holds.cells h.1 1 _ rfl, span_Holds.cells h.1 2 _ rfl, span_Holds.cells h.1 3 _ rfl⟩, ⟨span_Holds.cells h.2.1 0 _ rfl, span_Holds.cells h.2.1 1 _ rfl, span_Holds.cells h.2.1 2 _ rfl, span_Holds.cells h.2.1 3 _ rfl⟩⟩
theorem hoggetlaw05_SpanPlain.St.set {w : World} {vc wc : Array Value} {W W6 : World} {i : Nat} (h : hoggetlaw05_SpanPlain.St w vc wc W) (v : Value) (h6 : hoggetlaw05_SpanPlain.St w vc wc W6) : hoggetlaw05_SpanPlain.St w vc wc (W.setCell ⟨W6.heap.size, i, none⟩ v) := by
  have l2 := (Array.getElem?_eq_some_iff.1 h6.2.1).1
  have hb : Below w.heap.size w (W.setCell ⟨W6.heap.size, i, none⟩ v) := below_set h.2.2.1 h6.2.2.1.size
  refine ⟨blk_far h.1 (by show w.heap.size ≠ W6.heap.size; omega) v, blk_far h.2.1 (by show w.heap.size + 1 ≠ W6.heap.size; omega) v, hb, h.2.2.2⟩
theorem hoggetlaw05_SpanPlain.row0 (W : World) : Kd.C (Kd.slice 45 k45) (W.alloc (.cells #[.slice none 0 0] 38)) (some ⟨W.heap.size, 0, none⟩) 1 [([] : List S45)] := by
  have hadd : ∀ n, (⟨W.heap.size, 0, none⟩ : Addr).add n = ⟨W.heap.size, n, none⟩ := fun n => by unfold Addr.add; split <;> simp_all
  refine ⟨rfl, by simp, fun _ => ⟨_, rfl, fun j p hp => ?_⟩⟩
  match j, hp with
  | 0, hp =>
    obtain rfl := Option.some.inj hp
    refine ⟨[.slice none 0 0], rfl, ?_, fun i u hu => ?_⟩
    · exact ⟨none, 0, rfl, Nat.le_refl 0, rfl, by simp, fun h => absurd h (by simp)⟩
    · rw [hadd, World.cell?_alloc_at _ _ _ _ (by simp)]
      match i, hu with
      | 0, hu => simpa using hu
theorem hoggetlaw05_SpanPlain.row (W : World) (o x y z : Int) (p : ByteArray) : Kd.C (Kd.slice 45 k45) ((W.alloc (.cells #[.int .i64 o, .int .i64 x, .int .i64 y, .int .i64 z, .string p] 45)).alloc (.cells #[.slice (some ⟨W.heap.size, 0, none⟩) 1 1] 38)) (some ⟨W.heap.size + 1, 0, none⟩) 1 [[(⟨o, ⟨x, y, z, p⟩⟩ : S45)]] := by
  have hadd : ∀ b n, (⟨b, 0, none⟩ : Addr).add n = ⟨b, n, none⟩ := fun b n => by unfold Addr.add; split <;> simp_all
  refine ⟨rfl, by simp, fun _ => ⟨_, rfl, fun j q hq => ?_⟩⟩
  match j, hq with
  | 0, hq =>
    obtain rfl := Option.some.inj hq
    refine ⟨[.slice (some ⟨W.heap.size, 0, none⟩) 1 1], rfl, ⟨some ⟨W.heap.size, 0, none⟩, 1, rfl, Nat.le_refl 1, rfl, by simp, fun _ => ⟨_, rfl, fun j q hq => ?_⟩⟩, fun i u hu => ?_⟩
    · match j, hq with
      | 0, hq =>
        obtain rfl := Option.some.inj hq
        refine ⟨[.int .i64 o, .int .i64 x, .int .i64 y, .int .i64 z, .string p], rfl, ⟨[.int .i64 o], _, rfl, rfl, [.int .i64 x], _, rfl, rfl, [.int .i64 y], _, rfl, rfl, [.int .i64 z], _, rfl, rfl, rfl⟩, fun i u hu => ?_⟩
        have hb : ((W.alloc (.cells #[.int .i64 o, .int .i64 x, .int .i64 y, .int .i64 z, .string p] 45)).alloc (.cells #[.slice (some ⟨W.heap.size, 0, none⟩) 1 1] 38)).heap[W.heap.size]? = some (.cells #[.int .i64 o, .int .i64 x, .int .i64 y, .int .i64 z, .string p] 45 (0, 0)) := blk_alloc (World.alloc_heap_new W _) _
        rw [hadd, show 0 * k45.sz + i = i from by simp]
        match i, hu with
        | 0, hu => exact (span_Holds.cells hb 0 _ rfl).trans hu
        | 1, hu => exact (span_Holds.cells hb 1 _ rfl).trans hu
        | 2, hu => exact (span_Holds.cells hb 2 _ rfl).trans hu
        | 3, hu => exact (span_Holds.cells hb 3 _ rfl).trans hu
        | 4, hu => exact (span_Holds.cells hb 4 _ rfl).trans hu
    · have hb : ((W.alloc (.cells #[.int .i64 o, .int .i64 x, .int .i64 y, .int .i64 z, .string p] 45)).alloc (.cells #[.slice (some ⟨W.heap.size, 0, none⟩) 1 1] 38)).heap[W.heap.size + 1]? = some (.cells #[.slice (some ⟨W.heap.size, 0, none⟩) 1 1] 38 (0, 0)) := by
        have := World.alloc_heap_new (W.alloc (.cells #[.int .i64 o, .int .i64 x, .int .i64 y, .int .i64 z, .string p] 45)) (.cells #[.slice (some ⟨W.heap.size, 0, none⟩) 1 1] 38)
        rw [World.size_alloc] at this
        exact this
      rw [hadd]
      match i, hu with
      | 0, hu => exact (span_Holds.cells hb 0 _ rfl).trans hu
theorem hoggetlaw05_SpanPlain.at6 {W : World} {g t : Nat} {b0 b1 b2 b3 b4 b5 : Value} (h : W.heap[g]? = some (.cells #[b0, b1, b2, b3, b4, b5] t (0, 0))) (o : Int) (h1 : 1 ≤ o) (h5 : o ≤ 5) : ∃ x, W.cell? ⟨g, o.toNat, none⟩ = some x := by
  rcases (show o = 1 ∨ o = 2 ∨ o = 3 ∨ o = 4 ∨ o = 5 by omega) with rfl | rfl | rfl | rfl | rfl
  · exact ⟨_, span_Holds.cells h 1 _ rfl⟩
  · exact ⟨_, span_Holds.cells h 2 _ rfl⟩
  · exact ⟨_, span_Holds.cells h 3 _ rfl⟩
  · exact ⟨_, span_Holds.cells h 4 _ rfl⟩
  · exact ⟨_, span_Holds.cells h 5 _ rfl⟩
section
open Lib
set_option maxRecDepth 100000 in
set_option maxHeartbeats 2000000 in
theorem hoggetlaw05_SpanPlain.small (x y z : Int) (p : ByteArray) (W : World) (d0 : decide (300 < (p.size : Int)) = false) :
    Calls Tryz.prog 22 #[.agg #[.int .i64 x, .int .i64 y, .int .i64 z, .string p]] W fun e w' => e = .returned (.bool false) ∧ w' = W.alloc (.cells #[.int .i64 x, .int .i64 y, .int .i64 z, .string p] 35) := by
  have hu2 := Tryz.underlying35
  go_enter Tryz.func22, Tryz.ntmps22
  go_wp2
  go_ret
  exact ⟨rfl, rfl⟩
set_option maxRecDepth 100000 in
set_option maxHeartbeats 8000000 in
theorem hoggetlaw05_SpanPlain.calls (k : Nat) (a0_0 : Int) (a0_1 : Int) (a0_2 : Int) (a0_3 : ByteArray) (a1_0 : Int) (a1_1 : Int) (a1_2 : Int) (a1_3 : ByteArray) (r : Bool) (w : World) (h : hoggetlaw05_SpanPlain.f k a0_0 a0_1 a0_2 a0_3 a1_0 a1_1 a1_2 a1_3 = some r) (hLD : LD w) :
    Calls Tryz.prog 8 #[.agg #[.int .i64 a0_0, .int .i64 a0_1, .int .i64 a0_2, .string a0_3], .agg #[.int .i64 a1_0, .int .i64 a1_1, .int .i64 a1_2, .string a1_3]] w fun e w' => e = .returned (.bool r) ∧ Below w.heap.size w w' := by
  unfold hoggetlaw05_SpanPlain.f at h
  have hu1 := Tryz.underlying24
  have hu2 := Tryz.underlying35
  have hu3 := Tryz.underlying45
  have HLD := Lib.hid hLD
  clear hLD
  by_cases c0 : 300 < (a0_3.size : Int)
  · rw [if_pos c0] at h
    obtain rfl := Option.some.inj h
    have d0 : decide (300 < (a0_3.size : Int)) = true := decide_eq_true c0
    clear h c0
    go_enter Tryz.func8, Tryz.ntmps8
    go_wp2
    go_ret
    exact ⟨rfl, (((((Below.refl _ w).alloc (Nat.le_refl _) _).alloc (by simp) _).alloc (by simp; omega) _))⟩
  · rw [if_neg c0] at h
    have d0 : decide (300 < (a0_3.size : Int)) = false := decide_eq_false c0
    clear c0
    by_cases c1 : 300 < (a1_3.size : Int)
    · rw [if_pos c1] at h
      obtain rfl := Option.some.inj h
      have d1 : decide (300 < (a1_3.size : Int)) = true := decide_eq_true c1
      clear h c1
      go_enter Tryz.func8, Tryz.ntmps8
      go_wp2
      go_ret
      exact ⟨rfl, ((((((Below.refl _ w).alloc (Nat.le_refl _) _).alloc (by simp) _).alloc (by simp; omega) _).alloc (by simp; omega) _))⟩
    · rw [if_neg c1] at h
      have d1 : decide (300 < (a1_3.size : Int)) = false := decide_eq_false c1
      clear c1
      obtain ⟨⟨ta, oa⟩, hpa, h⟩ := Option.bind_eq_some_iff.1 h
      obtain ⟨⟨tb, ob⟩, hpb, h⟩ := Option.bind_eq_some_iff.1 h
      obtain ⟨vs, hvs, h⟩ := Option.bind_eq_some_iff.1 h
      have CPA := Lib.hid (fun W hW => version_Print.calls k a0_0 a0_1 a0_2 ⟨#[]⟩ ta oa W hpa hW)
      have CPB := Lib.hid (fun W hW => version_Print.calls k a1_0 a1_1 a1_2 a1_3 tb ob W hpb hW)
      cases vs with
      | false => simp at h
      | true =>
      have CV := Lib.hid (fun W hW => hoggetlaw05_spans.calls k true W hvs hW)
      rw [if_neg (by decide)] at h
      have HL0 := Lib.hid (hoggetlaw05_SpanPlain.St.first (vc := #[.int .i64 a0_0, .int .i64 a0_1, .int .i64 a0_2, .string ⟨#[]⟩]) (wc := #[.int .i64 a1_0, .int .i64 a1_1, .int .i64 a1_2, .string a1_3]) HLD.out (.cells #[.int .i64 a0_0, .int .i64 a0_1, .int .i64 a0_2, .string a0_3] 35) (.cells #[.int .i64 a1_0, .int .i64 a1_1, .int .i64 a1_2, .string a1_3] 35))
      clear hpa hpb hvs
      cases oa with
      | false =>
        obtain rfl : true = r := by simpa using h
        clear h
        go_enter Tryz.func8, Tryz.ntmps8
        go_wp2_with (first | (go_at_call 22; (first | refine (hoggetlaw05_SpanPlain.small a0_0 a0_1 a0_2 a0_3 _ d0).mono ?_ | refine (hoggetlaw05_SpanPlain.small a1_0 a1_1 a1_2 a1_3 _ d1).mono ?_); rintro e w' ⟨rfl, rfl⟩) | (go_at_call 21; (first | ((with_reducible refine (CPA.out _ ?hl).mono ?_); (case hl => exact HL0.out.ld); rintro e w5 ⟨rfl, hb⟩; have S5 := Lib.hid (HL0.out.below hb); clear hb; obtain ⟨⟨p0, p1, p2, p3⟩, ⟨q0, q1, q2, q3⟩⟩ := hoggetlaw05_SpanPlain.St.reads S5.out) | ((with_reducible refine (CPB.out _ ?hl).mono ?_); (case hl => exact S5.out.ld); rintro e w6 ⟨rfl, hb⟩; have S6 := Lib.hid (S5.out.below hb); clear hb p0 p1 p2 p3 q0 q1 q2 q3; obtain ⟨⟨p0, p1, p2, p3⟩, ⟨q0, q1, q2, q3⟩⟩ := hoggetlaw05_SpanPlain.St.reads S6.out))) | (go_at_call 16; (with_reducible refine (CV.out _ ?hl).mono ?_); (case hl => exact S6.out.ld); rintro e w7 ⟨rfl, hb⟩; have S7 := Lib.hid (S6.out.below hb); clear hb p0 p1 p2 p3 q0 q1 q2 q3))
        go_ret
        exact ⟨rfl, S7.out.2.2.1⟩
      | true =>
      simp only [Bool.true_eq_false, if_false] at h
      cases ob with
      | false =>
        obtain rfl : true = r := by simpa using h
        clear h
        go_enter Tryz.func8, Tryz.ntmps8
        go_wp2_with (first | (go_at_call 22; (first | refine (hoggetlaw05_SpanPlain.small a0_0 a0_1 a0_2 a0_3 _ d0).mono ?_ | refine (hoggetlaw05_SpanPlain.small a1_0 a1_1 a1_2 a1_3 _ d1).mono ?_); rintro e w' ⟨rfl, rfl⟩) | (go_at_call 21; (first | ((with_reducible refine (CPA.out _ ?hl).mono ?_); (case hl => exact HL0.out.ld); rintro e w5 ⟨rfl, hb⟩; have S5 := Lib.hid (HL0.out.below hb); clear hb; obtain ⟨⟨p0, p1, p2, p3⟩, ⟨q0, q1, q2, q3⟩⟩ := hoggetlaw05_SpanPlain.St.reads S5.out) | ((with_reducible refine (CPB.out _ ?hl).mono ?_); (case hl => exact S5.out.ld); rintro e w6 ⟨rfl, hb⟩; have S6 := Lib.hid (S5.out.below hb); clear hb p0 p1 p2 p3 q0 q1 q2 q3; obtain ⟨⟨p0, p1, p2, p3⟩, ⟨q0, q1, q2, q3⟩⟩ := hoggetlaw05_SpanPlain.St.reads S6.out))) | (go_at_call 16; (with_reducible refine (CV.out _ ?hl).mono ?_); (case hl => exact S6.out.ld); rintro e w7 ⟨rfl, hb⟩; have S7 := Lib.hid (S6.out.below hb); clear hb p0 p1 p2 p3 q0 q1 q2 q3))
        go_ret
        exact ⟨rfl, S7.out.2.2.1⟩
      | true =>
      simp only [Bool.true_eq_false, if_false] at h
      have HH := Lib.hid h
      clear h
      go_enter Tryz.func8, Tryz.ntmps8
      go_wp2_with (first | (go_at_call 22; (first | refine (hoggetlaw05_SpanPlain.small a0_0 a0_1 a0_2 a0_3 _ d0).mono ?_ | refine (hoggetlaw05_SpanPlain.small a1_0 a1_1 a1_2 a1_3 _ d1).mono ?_); rintro e w' ⟨rfl, rfl⟩) | (go_at_call 21; (first | ((with_reducible refine (CPA.out _ ?hl).mono ?_); (case hl => exact HL0.out.ld); rintro e w5 ⟨rfl, hb⟩; have S5 := Lib.hid (HL0.out.below hb); clear hb; obtain ⟨⟨p0, p1, p2, p3⟩, ⟨q0, q1, q2, q3⟩⟩ := hoggetlaw05_SpanPlain.St.reads S5.out) | ((with_reducible refine (CPB.out _ ?hl).mono ?_); (case hl => exact S5.out.ld); rintro e w6 ⟨rfl, hb⟩; have S6 := Lib.hid (S5.out.below hb); clear hb p0 p1 p2 p3 q0 q1 q2 q3; obtain ⟨⟨p0, p1, p2, p3⟩, ⟨q0, q1, q2, q3⟩⟩ := hoggetlaw05_SpanPlain.St.reads S6.out))))
      obtain ⟨h1, e1, h⟩ := Option.bind_eq_some_iff.1 HH.out
      obtain ⟨h2, e2, h⟩ := Option.bind_eq_some_iff.1 h
      obtain ⟨h3, e3, h⟩ := Option.bind_eq_some_iff.1 h
      obtain ⟨h4, e4, h⟩ := Option.bind_eq_some_iff.1 h
      obtain ⟨h5, e5, h⟩ := Option.bind_eq_some_iff.1 h
      obtain ⟨h0, e0, h⟩ := Option.bind_eq_some_iff.1 h
      have HF := Lib.hid h
      have HE0 := Lib.hid e0
      obtain ⟨R, hR⟩ : ∃ R : Int → Bool, R = fun o => if o = 1 then h1 else if o = 2 then h2 else if o = 3 then h3 else if o = 4 then h4 else h5 := ⟨_, rfl⟩
      have HR : Hid (∀ o : Int, 1 ≤ o → o ≤ 5 → span_Holds.f k [[(⟨o, ⟨a1_0, a1_1, a1_2, a1_3⟩⟩ : S45)]] a0_0 a0_1 a0_2 ⟨#[]⟩ = some (R o)) := Lib.hid (fun o l u => by
        rw [hR]
        rcases (show o = 1 ∨ o = 2 ∨ o = 3 ∨ o = 4 ∨ o = 5 by omega) with rfl | rfl | rfl | rfl | rfl
        · exact e1
        · exact e2
        · exact e3
        · exact e4
        · exact e5)
      have HRv := Lib.hid hR
      clear h e1 e2 e3 e4 e5 e0 HH hR
      have HT := Lib.hid (S6.out.alloc (.cells #[.bool false, .bool false, .bool false, .bool false, .bool false, .bool false] 42))
      go_loopg [10] 6 (fun kq v10 W => ∃ o : Int, v10 = .int .i64 o ∧ 1 ≤ o ∧ o ≤ 6 ∧ Aside0 ((kq : Int) = 7 - o) ∧ Aside0 (W.heap[w6.heap.size]? = some (.cells #[.bool false, .bool (decide (1 < o) && R 1), .bool (decide (2 < o) && R 2), .bool (decide (3 < o) && R 3), .bool (decide (4 < o) && R 4), .bool (decide (5 < o) && R 5)] 42 (0, 0))) ∧ Aside0 (hoggetlaw05_SpanPlain.St w #[.int .i64 a0_0, .int .i64 a0_1, .int .i64 a0_2, .string ⟨#[]⟩] #[.int .i64 a1_0, .int .i64 a1_1, .int .i64 a1_2, .string a1_3] W))
      case atStart =>
        refine ⟨1, rfl, by decide, by decide, ⟨by decide⟩, ⟨?_⟩, ⟨HT.out⟩⟩
        exact World.alloc_heap_new w6 _
      case round =>
        obtain ⟨o, rfl, l1, l2, K0, G0, T0⟩ := hrel
        replace l1 : 1 ≤ o := l1
        replace l2 : o ≤ 6 := l2
        have x0 : (0 ≤ o) = True := eq_true (by omega)
        obtain ⟨⟨p0, p1, p2, p3⟩, ⟨q0, q1, q2, q3⟩⟩ := hoggetlaw05_SpanPlain.St.reads T0.out
        by_cases c5 : o ≤ 5
        · have d5 : decide (o ≤ 5) = true := decide_eq_true c5
          have x6 : (o < 6) = True := eq_true (by omega)
          have HRo := Lib.hid (HR.out o l1 c5)
          have CH : Hid (∀ (W : World) (b : Nat), Kd.C (Kd.slice 45 k45) W (some ⟨b, 0, none⟩) 1 [[(⟨o, ⟨a1_0, a1_1, a1_2, a1_3⟩⟩ : S45)]] → LD W → Calls Tryz.prog 19 #[.agg #[.slice (some ⟨b, 0, none⟩) 1 1], .agg #[.int .i64 a0_0, .int .i64 a0_1, .int .i64 a0_2, .string ⟨#[]⟩]] W fun e w' => e = .returned (.bool (R o)) ∧ Below W.heap.size W w') :=
            Lib.hid (fun W b hr hl => span_Holds.calls k (some ⟨b, 0, none⟩) 1 [[(⟨o, ⟨a1_0, a1_1, a1_2, a1_3⟩⟩ : S45)]] a0_0 a0_1 a0_2 ⟨#[]⟩ (R o) W hr (Nat.le_refl 1) HRo.out hl)
          have PA0 : ∀ o1 o2, ((wr.alloc o1).alloc o2).cell? ⟨w.heap.size, 0, none⟩ = some (.int .i64 a0_0) := fun o1 o2 => ((T0.out.alloc o1).alloc o2).reads.1.1
          have PA1 : ∀ o1 o2, ((wr.alloc o1).alloc o2).cell? ⟨w.heap.size, 1, none⟩ = some (.int .i64 a0_1) := fun o1 o2 => ((T0.out.alloc o1).alloc o2).reads.1.2.1
          have PA2 : ∀ o1 o2, ((wr.alloc o1).alloc o2).cell? ⟨w.heap.size, 2, none⟩ = some (.int .i64 a0_2) := fun o1 o2 => ((T0.out.alloc o1).alloc o2).reads.1.2.2.1
          have PA3 : ∀ o1 o2, ((wr.alloc o1).alloc o2).cell? ⟨w.heap.size, 3, none⟩ = some (.string ⟨#[]⟩) := fun o1 o2 => ((T0.out.alloc o1).alloc o2).reads.1.2.2.2
          go_wp2_with (first | (go_at_call 19; ((with_reducible refine (CH.out _ _ ?hr ?hl).mono ?_); (case hr => exact hoggetlaw05_SpanPlain.row _ _ _ _ _ _); (case hl => exact ((T0.out.alloc _).alloc _).ld); rintro e w9 ⟨rfl, hb⟩; have HB9 := Lib.hid hb; clear hb; have T9 := Lib.hid (((T0.out.alloc _).alloc _).below HB9.out); have G9 := Aside0.mk (blk_below (blk_alloc (blk_alloc G0.out _) _) HB9.out); have f9 := blk_frozen G9.out o.toNat; obtain ⟨x9, c9⟩ := hoggetlaw05_SpanPlain.at6 G9.out o l1 c5)))
          go_roundg (gk - 1)
          case measure => have := K0.out; omega
          case rel =>
            have hk := K0.out
            refine ⟨o + 1, ?_, by omega, by omega, ⟨by omega⟩, ⟨?_⟩, ⟨?_⟩⟩
            · first | rfl | (show Value.int .i64 (IntKind.i64.wrap (o + 1)) = _; rw [i64_w, wrap64_id _ (by omega) (by omega)])
            · refine blk_put G9.out _ _ ?_
              rcases (show o = 1 ∨ o = 2 ∨ o = 3 ∨ o = 4 ∨ o = 5 by omega) with rfl | rfl | rfl | rfl | rfl <;> simp
            · exact T9.out.set (.bool (R o)) S6.out
        · have d5 : decide (o ≤ 5) = false := decide_eq_false c5
          obtain rfl : o = 6 := by omega
          obtain ⟨⟨g0, g2, g3, g1⟩, rfl⟩ : (h0 = true ∧ (R 2 != R 5) = true ∧ (R 3 != R 4) = true ∧ (R 1 == (R 3 && R 5)) = true) ∧ true = r := by
            have q := HF.out
            rw [HRv.out]
            by_cases cc : h0 = true ∧ (h2 != h5) = true ∧ (h3 != h4) = true ∧ (h1 == (h3 && h5)) = true
            · rw [if_pos cc] at q
              exact ⟨cc, Option.some.inj q⟩
            · rw [if_neg cc] at q; cases q
          subst g0
          have CH0 : Hid (∀ (W : World) (b : Nat), Kd.C (Kd.slice 45 k45) W (some ⟨b, 0, none⟩) 1 [[]] → LD W → Calls Tryz.prog 19 #[.agg #[.slice (some ⟨b, 0, none⟩) 1 1], .agg #[.int .i64 a0_0, .int .i64 a0_1, .int .i64 a0_2, .string ⟨#[]⟩]] W fun e w' => e = .returned (.bool true) ∧ Below W.heap.size W w') :=
            Lib.hid (fun W b hr hl => span_Holds.calls k (some ⟨b, 0, none⟩) 1 [[]] a0_0 a0_1 a0_2 ⟨#[]⟩ true W hr (Nat.le_refl 1) HE0.out hl)
          have r5 : R 5 = !(R 2) := by revert g2; cases R 2 <;> cases R 5 <;> simp
          have r4 : R 4 = !(R 3) := by revert g3; cases R 3 <;> cases R 4 <;> simp
          have r1 : R 1 = (R 3 && R 5) := by simpa using g1
          clear g1 g2 g3
          cases k2 : R 2 <;> cases k3 : R 3
          all_goals
            rw [k2] at r5
            rw [k3] at r4
            rw [k3, r5] at r1
            simp only [Bool.not_true, Bool.not_false, Bool.and_true, Bool.and_false] at r5 r4 r1
            go_wp2_with (first | (go_at_call 16; (with_reducible refine (CV.out _ ?hl).mono ?_); (case hl => exact T0.out.ld); rintro e w7 ⟨rfl, hb⟩; have T7 := Lib.hid (T0.out.below hb); have G7 := Aside0.mk (blk_below G0.out hb); clear hb p0 p1 p2 p3 q0 q1 q2 q3; have PB0 : ∀ o1, (w7.alloc o1).cell? ⟨w.heap.size, 0, none⟩ = some (.int .i64 a0_0) := fun o1 => (T7.out.alloc o1).reads.1.1; have PB1 : ∀ o1, (w7.alloc o1).cell? ⟨w.heap.size, 1, none⟩ = some (.int .i64 a0_1) := fun o1 => (T7.out.alloc o1).reads.1.2.1; have PB2 : ∀ o1, (w7.alloc o1).cell? ⟨w.heap.size, 2, none⟩ = some (.int .i64 a0_2) := fun o1 => (T7.out.alloc o1).reads.1.2.2.1; have PB3 : ∀ o1, (w7.alloc o1).cell? ⟨w.heap.size, 3, none⟩ = some (.string ⟨#[]⟩) := fun o1 => (T7.out.alloc o1).reads.1.2.2.2) | (go_at_call 19; (with_reducible refine (CH0.out _ _ ?hr ?hl).mono ?_); (case hr => exact hoggetlaw05_SpanPlain.row0 _); (case hl => exact (T7.out.alloc _).ld); rintro e w8 ⟨rfl, hb⟩; have T8 := Lib.hid ((T7.out.alloc _).below hb); have G8 := Aside0.mk (blk_below (blk_alloc G7.out _) hb); clear hb; have o1 := (blk_cell G8.out 1).trans rfl; have o2 := (blk_cell G8.out 2).trans rfl; have o3 := (blk_cell G8.out 3).trans rfl; have o4 := (blk_cell G8.out 4).trans rfl; have o5 := (blk_cell G8.out 5).trans rfl))
            go_ret
            exact ⟨rfl, T8.out.2.2.1⟩
end
end Go.Proofs.YtijooffpjfhidaaGreatDoor.G
end
section
namespace Go.Proofs.YtijooffpjfhidaaGreatDoor.Vp
open Go Go.RowKit Go.Proofs.YtijooffpjfhidaaGreatDoor.Txt Go.Proofs.YtijooffpjfhidaaGreatDoor.Trim Go.Proofs.YtijooffpjfhidaaGreatDoor.Num
def numF (n : Nat) (c : UInt8) : Nat := n * 10 + (c.toNat - 48)
def numV (l : List UInt8) : Nat := l.foldl numF 0
theorem numV_snoc (l : List UInt8) (c : UInt8) : numV (l ++ [c]) = numV l * 10 + (c.toNat - 48) := by simp [numV, numF]
theorem dig_iff {c : UInt8} : dig c = true ↔ 48 ≤ c.toNat ∧ c.toNat ≤ 57 := by unfold dig; simp
theorem fold_lt : ∀ (l : List UInt8) (acc : Nat), l.all dig = true → l.foldl numF acc < (acc + 1) * 10 ^ l.length
  | [], acc, _ => by simp
  | c :: r, acc, h => by
    rw [List.all_cons, Bool.and_eq_true] at h
    have hd := dig_iff.1 h.1
    rw [List.foldl_cons, List.length_cons, Nat.pow_succ]
    have h1 := fold_lt r (numF acc c) h.2
    have h2 : numF acc c + 1 ≤ (acc + 1) * 10 := by unfold numF; omega
    have h3 := Nat.mul_le_mul_right (10 ^ r.length) h2
    have h4 : (acc + 1) * 10 * 10 ^ r.length = (acc + 1) * (10 ^ r.length * 10) := by rw [Nat.mul_assoc, Nat.mul_comm 10]
    omega
theorem numV_lt {l : List UInt8} (h : l.all dig = true) : numV l < 10 ^ l.length := by have := fold_lt l 0 h; simpa [numV] using this
theorem parse10 : ∀ (l : List UInt8) (acc : Nat), l.all dig = true → (acc + 1) * 10 ^ l.length ≤ 1000000000000000000 → Lib.parseUint10 acc l = .ok (l.foldl numF acc)
  | [], acc, _, _ => rfl
  | c :: r, acc, h, hb => by
    rw [List.all_cons, Bool.and_eq_true] at h
    have hd := dig_iff.1 h.1
    have hp : 1 ≤ 10 ^ r.length := Nat.one_le_pow _ _ (by decide)
    rw [List.length_cons, Nat.pow_succ] at hb
    have h4 : (acc + 1) * 10 * 10 ^ r.length = (acc + 1) * (10 ^ r.length * 10) := by rw [Nat.mul_assoc, Nat.mul_comm 10]
    have h5 : (acc + 1) * 10 ≤ (acc + 1) * 10 * 10 ^ r.length := Nat.le_mul_of_pos_right _ hp
    have h6 : (acc * 10 + (c.toNat - 48) + 1) * 10 ^ r.length ≤ (acc + 1) * 10 * 10 ^ r.length := Nat.mul_le_mul_right _ (by omega)
    simp only [Lib.parseUint10]
    rw [if_pos hd, if_neg (by omega), if_neg (by omega), parse10 r _ h.2 (by omega)]
    rfl
theorem valA_num {l : List UInt8} (hp : plainB l = true) (hl : l.length ≤ 17) : valA l = numV l := by
  cases l with
  | nil => cases hp
  | cons c r =>
    have ha : (c :: r).all dig = true := hp
    have hd := dig_iff.1 ((Bool.and_eq_true _ _).mp (by rw [List.all_cons] at ha; exact ha)).1
    have hb : 10 ^ (c :: r).length ≤ 100000000000000000 := by
      have : 10 ^ (c :: r).length ≤ 10 ^ 17 := Nat.pow_le_pow_right (by decide) hl
      have e : 10 ^ 17 = 100000000000000000 := by decide
      omega
    have h1 := parse10 (c :: r) 0 ha (by omega)
    have h2 := numV_lt ha
    have hn43 : ¬ (c.toNat = 43 ∨ c.toNat = 45) := by omega
    have hn45 : ¬ c.toNat = 45 := by omega
    have h3 : Lib.atoiAll (c :: r) = .ok (numV (c :: r) : Int) := by
      simp only [Lib.atoiAll, if_neg hn43, Lib.parseMag, if_neg (List.cons_ne_nil c r), h1]
      rw [if_neg (by simp only [hn45, not_false_eq_true, true_and]; show ¬ 9223372036854775808 ≤ numV (c :: r); omega), if_neg (by simp [hn45]), if_neg hn45]
      rfl
    unfold valA
    rw [h3]
theorem dig_back {c : UInt8} (h : dig c = true) : UInt8.ofNat (48 + (c.toNat - 48)) = c := by
  have := dig_iff.1 h
  rw [show 48 + (c.toNat - 48) = c.toNat by omega]
  simp
theorem dec_numV : ∀ (n : Nat) (l : List UInt8), l.length = n + 1 → l.all dig = true → (l.head? = some 48 → l = [48]) → Lib.decDigits (numV l) = l
  | 0, l, hl, ha, _ => by
    match l, hl with
    | [c], _ =>
      have hd : dig c = true := by simpa using ha
      have := dig_iff.1 hd
      have e : numV [c] = c.toNat - 48 := by simp [numV, numF]
      rw [e, Lib.decDigits_one (by omega), dig_back hd]
  | n + 1, l, hl, ha, hh => by
    rcases List.eq_nil_or_concat l with rfl | ⟨l', c, rfl⟩
    · simp at hl
    · simp only [List.concat_eq_append] at hl ha hh ⊢
      rw [List.all_append, Bool.and_eq_true] at ha
      have hd : dig c = true := by simpa using ha.2
      have hdi := dig_iff.1 hd
      have hl' : l'.length = n + 1 := by simp at hl; exact hl
      have hne : l' ≠ [] := by intro e; rw [e] at hl'; simp at hl'
      have hh' : l'.head? ≠ some 48 := by
        intro e
        have h1 : (l' ++ [c]).head? = some 48 := by
          cases l' with
          | nil => exact absurd rfl hne
          | cons x t => simpa using e
        exact hne (by have := congrArg List.length (hh h1); simp at this; exact this)
      have ih := dec_numV n l' hl' ha.1 (fun e => absurd e hh')
      have hpos : 1 ≤ numV l' := by
        rcases Nat.eq_zero_or_pos (numV l') with h0 | h0
        · rw [h0, Lib.decDigits_one (by omega)] at ih
          exfalso; apply hh'; rw [← ih]; rfl
        · exact h0
      rw [numV_snoc, Lib.decDigits, dif_neg (by omega), show (numV l' * 10 + (c.toNat - 48)) / 10 = numV l' by omega, show (numV l' * 10 + (c.toNat - 48)) % 10 = c.toNat - 48 by omega, ih, dig_back hd]
theorem dec_back (u : Nat) : numV (Lib.decDigits u) = u ∧ (Lib.decDigits u).all dig = true ∧ Lib.decDigits u ≠ [] ∧ ((Lib.decDigits u).head? = some 48 → u = 0) := by
  induction u using Nat.strongRecOn with
  | ind u ih =>
    by_cases h : u < 10
    · rw [Lib.decDigits_one h]
      have e : (UInt8.ofNat (48 + u)).toNat = 48 + u := by simp; omega
      refine ⟨by simp only [numV, numF, List.foldl_cons, List.foldl_nil, e]; omega, ?_, by simp, fun hh => ?_⟩
      · rw [List.all_cons, List.all_nil, Bool.and_true]; exact dig_iff.2 (by omega)
      · have h1 : UInt8.ofNat (48 + u) = 48 := by simpa using hh
        rw [h1] at e
        have : (48 : UInt8).toNat = 48 := rfl
        omega
    · have e : (UInt8.ofNat (48 + u % 10)).toNat = 48 + u % 10 := by simp; omega
      obtain ⟨h1, h2, h3, h4⟩ := ih (u / 10) (by omega)
      rw [Lib.decDigits, dif_neg h]
      refine ⟨by rw [numV_snoc, h1, e]; omega, ?_, by simp, fun hh => ?_⟩
      · rw [List.all_append, h2, List.all_cons, List.all_nil, Bool.and_true, Bool.true_and]; exact dig_iff.2 (by omega)
      · exfalso
        cases hd : Lib.decDigits (u / 10) with
        | nil => exact h3 hd
        | cons x t =>
          rw [hd] at hh h4
          have := h4 (by simpa using hh)
          omega
theorem nDigits_le : ∀ (k u : Nat), u < 10 ^ (k + 1) → Lib.nDigits u ≤ k + 1
  | 0, u, h => by rw [Lib.nDigits_small (by simpa using h)]; omega
  | k + 1, u, h => by
    by_cases h1 : u < 10
    · rw [Lib.nDigits_small h1]; omega
    · rw [Lib.nDigits_big h1]
      have := nDigits_le k (u / 10) (by rw [Nat.pow_succ] at h; omega)
      omega
theorem okB_dec {u : Nat} (h : u ≤ 999999) : okB (Lib.decDigits u) = true := by
  obtain ⟨_, h2, h3, h4⟩ := dec_back u
  have hl : (Lib.decDigits u).length ≤ 6 := by rw [Lib.decDigits_length]; exact nDigits_le 5 u (by omega)
  unfold okB plainB
  rw [h2, decide_eq_true hl]
  have he : (Lib.decDigits u).isEmpty = false := by cases hd : Lib.decDigits u with
    | nil => exact absurd hd h3
    | cons => rfl
  rw [he]
  by_cases hh : (Lib.decDigits u).head? = some 48
  · have := h4 hh
    subst this
    rw [Lib.decDigits_one (show 0 < 10 by omega)]
    rfl
  · simp [hh]
theorem okB_plain {l : List UInt8} (h : okB l = true) : plainB l = true ∧ l.length ≤ 6 ∧ l.all dig = true ∧ l ≠ [] := by
  unfold okB at h
  simp only [Bool.and_eq_true, decide_eq_true_eq] at h
  have hp := h.1.1
  refine ⟨hp, h.1.2, ?_, ?_⟩
  · unfold plainB at hp; rw [Bool.and_eq_true] at hp; exact hp.2
  · intro e; subst e; cases hp
theorem okB_num {l : List UInt8} (h : okB l = true) : numV l ≤ 999999 ∧ Lib.decDigits (numV l) = l ∧ valA l = numV l := by
  obtain ⟨hp, hl, ha, hne⟩ := okB_plain h
  have h1 := numV_lt ha
  have h2 : 10 ^ l.length ≤ 10 ^ 6 := Nat.pow_le_pow_right (by decide) hl
  refine ⟨by omega, ?_, valA_num hp (by omega)⟩
  obtain ⟨n, hn⟩ : ∃ n, l.length = n + 1 := ⟨l.length - 1, by have := List.length_pos_iff.2 hne; omega⟩
  refine dec_numV n l hn ha (fun hh => ?_)
  unfold okB at h
  rw [hh, Bool.and_eq_true] at h
  simpa using h.2
end Go.Proofs.YtijooffpjfhidaaGreatDoor.Vp
end
section
namespace Go.Proofs.YtijooffpjfhidaaGreatDoor.Vp
open Go Go.RowKit Go.Proofs.YtijooffpjfhidaaGreatDoor.Txt Go.Proofs.YtijooffpjfhidaaGreatDoor.Seq
def dl (s : ByteArray) : List UInt8 := s.data.toList
theorem dl_mk (l : List UInt8) : dl (mk l) = l := rfl
theorem mk_dl (s : ByteArray) : mk (dl s) = s := (eq_mk s).symm
theorem dl_inj {a b : ByteArray} (h : dl a = dl b) : a = b := ext h
def cutL (c : UInt8) : List UInt8 → List UInt8 × List UInt8 × Bool
  | [] => ([], [], false)
  | x :: r => if x = c then ([], r, true) else (x :: (cutL c r).1, (cutL c r).2.1, (cutL c r).2.2)
theorem cutL_index (c : UInt8) : ∀ l : List UInt8, cutL c l = if 0 ≤ Lib.indexByte l c then (l.take (Lib.indexByte l c).toNat, l.drop ((Lib.indexByte l c).toNat + 1), true) else (l, [], false)
  | [] => rfl
  | x :: r => by
    have h := cutL_index c r
    have hge := Lib.indexByte_ge r c
    unfold cutL Lib.indexByte
    by_cases hx : x = c
    · simp [hx]
    · rw [if_neg hx, h]
      by_cases h1 : Lib.indexByte r c = -1
      · simp [hx, h1]
      · have h2 : 0 ≤ Lib.indexByte r c := by omega
        have h3 : (Lib.indexByte r c + 1).toNat = (Lib.indexByte r c).toNat + 1 := by omega
        have h4 : 0 ≤ Lib.indexByte r c + 1 := by omega
        simp [hx, h1, h2, h3, h4]
theorem cutL_len (c : UInt8) : ∀ l : List UInt8, (cutL c l).1.length ≤ l.length ∧ (cutL c l).2.1.length ≤ l.length
  | [] => ⟨Nat.le_refl _, Nat.le_refl _⟩
  | x :: r => by
    have h := cutL_len c r
    unfold cutL
    split
    · simp
    · simp; omega
theorem cutB_eq (s : ByteArray) (c : UInt8) : Cut.cutB s c = (mk (cutL c s.data.toList).1, mk (cutL c s.data.toList).2.1, (cutL c s.data.toList).2.2) := by
  have hlt := Cut.indexByte_lt s.data.toList c
  rw [len] at hlt
  rw [cutL_index]
  unfold Cut.cutB
  split
  · have e1 : s.extract 0 (Lib.indexByte s.data.toList c).toNat = mk (s.data.toList.take (Lib.indexByte s.data.toList c).toNat) := ext (by rw [extract_list]; rfl)
    have e2 : s.extract ((Lib.indexByte s.data.toList c).toNat + 1) s.size = mk (s.data.toList.drop ((Lib.indexByte s.data.toList c).toNat + 1)) := ext (by
      rw [extract_list, List.take_of_length_le (by rw [len]; omega)]; rfl)
    rw [e1, e2]
  · exact congrArg (fun t => (t, _)) (eq_mk s)
theorem cutL_back (c : UInt8) : ∀ l : List UInt8, ((cutL c l).2.2 = true → l = (cutL c l).1 ++ c :: (cutL c l).2.1) ∧ ((cutL c l).2.2 = false → (cutL c l).1 = l ∧ (cutL c l).2.1 = [])
  | [] => ⟨(fun h => by cases h), (fun _ => ⟨rfl, rfl⟩)⟩
  | y :: l => by
    have ih := cutL_back c l
    unfold cutL
    by_cases h : y = c
    · rw [if_pos h]; exact ⟨(fun _ => by simp [h]), (fun h => by cases h)⟩
    · rw [if_neg h]
      exact ⟨(fun hm => by simp only at hm ⊢; rw [List.cons_append, ← ih.1 hm]), (fun hm => by simp only at hm ⊢; rw [(ih.2 hm).1, (ih.2 hm).2]; exact ⟨rfl, rfl⟩)⟩
def cuts (c : UInt8) : List UInt8 → List (List UInt8)
  | [] => [[]]
  | x :: r => if x = c then [] :: cuts c r else (x :: (cuts c r).headD []) :: (cuts c r).tail
theorem cuts_cons (c x : UInt8) (r : List UInt8) : cuts c (x :: r) = if x = c then [] :: cuts c r else (x :: (cuts c r).headD []) :: (cuts c r).tail := rfl
theorem cutL_cons (c x : UInt8) (r : List UInt8) : cutL c (x :: r) = if x = c then ([], r, true) else (x :: (cutL c r).1, (cutL c r).2.1, (cutL c r).2.2) := rfl
def joinC (c : UInt8) : List (List UInt8) → List UInt8
  | [] => []
  | [x] => x
  | x :: y :: t => x ++ c :: joinC c (y :: t)
theorem cuts_ne (c : UInt8) (l : List UInt8) : cuts c l ≠ [] := by
  cases l with
  | nil => simp [cuts]
  | cons x r => rw [cuts_cons]; split <;> simp
theorem cuts_cut (c : UInt8) : ∀ l : List UInt8, cuts c l = (cutL c l).1 :: (if (cutL c l).2.2 = true then cuts c (cutL c l).2.1 else [])
  | [] => rfl
  | x :: r => by
    have ih := cuts_cut c r
    rw [cuts_cons, cutL_cons]
    by_cases h : x = c
    · simp [h]
    · simp only [if_neg h]
      conv => lhs; rw [ih]
      rfl
theorem cutL_lt (c : UInt8) (l : List UInt8) (h : (cutL c l).2.2 = true) : (cutL c l).1.length + (cutL c l).2.1.length + 1 = l.length := by
  have := congrArg List.length ((cutL_back c l).1 h)
  simp at this
  omega
theorem joinC_cons (c : UInt8) (x : List UInt8) {t : List (List UInt8)} (h : t ≠ []) : joinC c (x :: t) = x ++ c :: joinC c t := by
  cases t with
  | nil => exact absurd rfl h
  | cons y t => rfl
theorem joinC_head (c a : UInt8) (x : List UInt8) (t : List (List UInt8)) : joinC c ((a :: x) :: t) = a :: joinC c (x :: t) := by
  cases t <;> rfl
theorem cuts_join (c : UInt8) : ∀ l : List UInt8, joinC c (cuts c l) = l
  | [] => rfl
  | x :: r => by
    have ih := cuts_join c r
    rw [cuts_cons]
    by_cases h : x = c
    · rw [if_pos h, joinC_cons c [] (cuts_ne c r), ih, h]; rfl
    · rw [if_neg h, joinC_head]
      cases hc : cuts c r with
      | nil => exact absurd hc (cuts_ne c r)
      | cons y t => rw [hc] at ih; simp only [List.headD_cons, List.tail_cons]; rw [ih]
theorem cuts_len (c : UInt8) : ∀ l : List UInt8, (cuts c l).length ≤ l.length + 1
  | [] => by simp [cuts]
  | x :: r => by
    have ih := cuts_len c r
    rw [cuts_cons]
    split
    · simp; omega
    · simp; omega
theorem cuts_le (c : UInt8) : ∀ (l : List UInt8), ∀ x ∈ cuts c l, x.length ≤ l.length
  | [], x, hx => by simp [cuts] at hx; subst hx; simp
  | y :: r, x, hx => by
    have ih := cuts_le c r
    rw [cuts_cons] at hx
    split at hx
    · rcases List.mem_cons.1 hx with rfl | hx
      · simp
      · have := ih x hx; simp; omega
    · cases hc : cuts c r with
      | nil => exact absurd hc (cuts_ne c r)
      | cons z t =>
        rw [hc] at hx ih
        rcases List.mem_cons.1 hx with rfl | hx
        · have := ih z List.mem_cons_self; simp; omega
        · have := ih x (List.mem_cons_of_mem _ hx); simp; omega
theorem cutsF_eq (c : UInt8) : ∀ (k : Nat) (s : ByteArray), s.size < k → (cutsF c k s).map dl = cuts c (dl s)
  | 0, s, h => by omega
  | k + 1, s, h => by
    have hz := (cutB_size s c).2.2
    have hb := cutB_eq s c
    rw [cuts_cut]
    simp only [cutsF, List.map_cons]
    rw [hb] at hz ⊢
    simp only at hz ⊢
    congr 1
    change List.map dl (if (cutL c (dl s)).2.2 = true then _ else _) = _
    by_cases hm : (cutL c (dl s)).2.2 = true
    · rw [if_pos hm, if_pos hm, cutsF_eq c k _ (by have := hz hm; rw [mk_size] at this ⊢; change _ + (cutL c (dl s)).2.1.length < _ at this; change (cutL c (dl s)).2.1.length < k; omega)]
      rfl
    · rw [if_neg hm, if_neg hm]; rfl
theorem cutsL_eq (c : UInt8) (s : ByteArray) : (cutsL c s).map dl = cuts c (dl s) := cutsF_eq c _ s (by omega)
theorem cutsL_mk (c : UInt8) (s : ByteArray) : cutsL c s = (cuts c (dl s)).map mk := by
  rw [← cutsL_eq, List.map_map]
  conv => lhs; rw [← List.map_id (cutsL c s)]
  exact List.map_congr_left fun x _ => (mk_dl x).symm
end Go.Proofs.YtijooffpjfhidaaGreatDoor.Vp
end
section
namespace Go.Proofs.YtijooffpjfhidaaGreatDoor.Vp
open Go Go.RowKit Go.Proofs.YtijooffpjfhidaaGreatDoor.Txt Go.Proofs.YtijooffpjfhidaaGreatDoor.Trim Go.Proofs.YtijooffpjfhidaaGreatDoor.Num
set_option linter.unusedVariables false
structure Ord3 {α : Type} (P : α → Prop) (f : α → α → Int) : Prop where
  rng : ∀ a b, f a b = -1 ∨ f a b = 0 ∨ f a b = 1
  anti : ∀ a b, f a b = - f b a
  zero : ∀ a b, P a → P b → f a b = 0 → a = b
  trans : ∀ a b c, P a → P b → P c → f a b = -1 → f b c = -1 → f a c = -1
theorem Ord3.refl {α : Type} {P : α → Prop} {f : α → α → Int} (h : Ord3 P f) (a : α) : f a a = 0 := by have := h.anti a a; omega
theorem Ord3.weak {α : Type} {P Q : α → Prop} {f : α → α → Int} (h : Ord3 P f) (hq : ∀ a, Q a → P a) : Ord3 Q f :=
  ⟨h.rng, h.anti, fun a b ha hb => h.zero a b (hq a ha) (hq b hb), fun a b c ha hb hc => h.trans a b c (hq a ha) (hq b hb) (hq c hc)⟩
theorem Ord3.by_ {α β : Type} {P : α → Prop} {f : α → α → Int} (h : Ord3 P f) (g : β → α) (Q : β → Prop) (hq : ∀ b, Q b → P (g b)) (hg : ∀ a b, Q a → Q b → g a = g b → a = b) : Ord3 Q (fun a b => f (g a) (g b)) :=
  ⟨fun a b => h.rng _ _, fun a b => h.anti _ _, fun a b ha hb e => hg a b ha hb (h.zero _ _ (hq a ha) (hq b hb) e), fun a b c ha hb hc => h.trans _ _ _ (hq a ha) (hq b hb) (hq c hc)⟩
def cmpI (a b : Int) : Int := if a < b then -1 else if b < a then 1 else 0
theorem cmpI_ord : Ord3 (fun _ => True) cmpI where
  rng a b := by
    unfold cmpI
    by_cases h : a < b
    · simp [h]
    · by_cases h2 : b < a <;> simp [h, h2]
  anti a b := by
    unfold cmpI
    by_cases h : a < b
    · have h2 : ¬ b < a := by omega
      simp [h, h2]
    · by_cases h2 : b < a <;> simp [h, h2]
  zero a b _ _ h := by
    unfold cmpI at h
    by_cases h1 : a < b
    · rw [if_pos h1] at h; omega
    · rw [if_neg h1] at h
      by_cases h2 : b < a
      · rw [if_pos h2] at h; omega
      · omega
  trans a b c _ _ _ h1 h2 := by
    have hab : a < b := by
      unfold cmpI at h1; split at h1
      · assumption
      · split at h1 <;> omega
    have hbc : b < c := by
      unfold cmpI at h2; split at h2
      · assumption
      · split at h2 <;> omega
    unfold cmpI; rw [if_pos (by omega)]
def rowsL {α : Type} (f : α → α → Int) : List α → List α → Int
  | [], [] => 0
  | [], _ :: _ => -1
  | _ :: _, [] => 1
  | x :: a, y :: b => if f x y = 0 then rowsL f a b else f x y
section
variable {α : Type} {P : α → Prop} {f : α → α → Int}
theorem rowsL_rng (h : Ord3 P f) : ∀ a b, rowsL f a b = -1 ∨ rowsL f a b = 0 ∨ rowsL f a b = 1
  | [], [] => by simp [rowsL]
  | [], _ :: _ => by simp [rowsL]
  | _ :: _, [] => by simp [rowsL]
  | x :: a, y :: b => by
    unfold rowsL
    split
    · exact rowsL_rng h a b
    · exact h.rng x y
theorem rowsL_anti (h : Ord3 P f) : ∀ a b, rowsL f a b = - rowsL f b a
  | [], [] => by simp [rowsL]
  | [], _ :: _ => by simp [rowsL]
  | _ :: _, [] => by simp [rowsL]
  | x :: a, y :: b => by
    have h1 := h.anti x y
    have ih := rowsL_anti h a b
    unfold rowsL
    split <;> split <;> omega
theorem rowsL_zero (h : Ord3 P f) : ∀ a b, (∀ x ∈ a, P x) → (∀ x ∈ b, P x) → rowsL f a b = 0 → a = b
  | [], [], _, _, _ => rfl
  | [], _ :: _, _, _, e => by simp [rowsL] at e
  | _ :: _, [], _, _, e => by simp [rowsL] at e
  | x :: a, y :: b, ha, hb, e => by
    unfold rowsL at e
    split at e
    · rename_i h0
      rw [h.zero x y (ha x List.mem_cons_self) (hb y List.mem_cons_self) h0, rowsL_zero h a b (fun z hz => ha z (List.mem_cons_of_mem _ hz)) (fun z hz => hb z (List.mem_cons_of_mem _ hz)) e]
    · contradiction
theorem rowsL_trans (h : Ord3 P f) : ∀ a b c, (∀ x ∈ a, P x) → (∀ x ∈ b, P x) → (∀ x ∈ c, P x) → rowsL f a b = -1 → rowsL f b c = -1 → rowsL f a c = -1
  | [], [], c, _, _, _, e, _ => by simp [rowsL] at e
  | [], _ :: _, [], _, _, _, _, e => by simp [rowsL] at e
  | [], _ :: _, _ :: _, _, _, _, _, _ => by simp [rowsL]
  | _ :: _, [], c, _, _, _, e, _ => by simp [rowsL] at e
  | _ :: _, _ :: _, [], _, _, _, _, e => by simp [rowsL] at e
  | x :: a, y :: b, z :: c, ha, hb, hc, e1, e2 => by
    have px := ha x List.mem_cons_self
    have py := hb y List.mem_cons_self
    have pz := hc z List.mem_cons_self
    unfold rowsL at e1 e2 ⊢
    by_cases h1 : f x y = 0
    · rw [if_pos h1] at e1
      have hxy := h.zero x y px py h1
      rw [hxy]
      by_cases h2 : f y z = 0
      · rw [if_pos h2] at e2 ⊢
        exact rowsL_trans h a b c (fun z hz => ha z (List.mem_cons_of_mem _ hz)) (fun z hz => hb z (List.mem_cons_of_mem _ hz)) (fun z hz => hc z (List.mem_cons_of_mem _ hz)) e1 e2
      · rw [if_neg h2] at e2 ⊢; exact e2
    · rw [if_neg h1] at e1
      by_cases h2 : f y z = 0
      · have := h.zero y z py pz h2
        rw [← this, if_neg h1]; exact e1
      · rw [if_neg h2] at e2
        have := h.trans x y z px py pz e1 e2
        rw [if_neg (by omega)]; exact this
theorem rowsL_ord (h : Ord3 P f) : Ord3 (fun l : List α => ∀ x ∈ l, P x) (rowsL f) := ⟨rowsL_rng h, rowsL_anti h, rowsL_zero h, rowsL_trans h⟩
end
def cmpU (a b : UInt8) : Int := cmpI a.toNat b.toNat
theorem cmpU_ord : Ord3 (fun _ : UInt8 => True) cmpU := cmpI_ord.by_ (fun a : UInt8 => (a.toNat : Int)) _ (fun _ _ => trivial) (fun a b _ _ h => u8_eq.2 h)
def cmpB : List UInt8 → List UInt8 → Int := rowsL cmpU
theorem cmpB_ord : Ord3 (fun _ : List UInt8 => True) cmpB := (rowsL_ord cmpU_ord).weak (fun _ _ _ _ => trivial)
theorem less_cmpB : ∀ a b : List UInt8, Op.bytesLess a b = decide (cmpB a b = -1)
  | [], [] => rfl
  | [], _ :: _ => rfl
  | _ :: _, [] => rfl
  | x :: a, y :: b => by
    have ih := less_cmpB a b
    unfold cmpB at ih ⊢
    unfold rowsL
    simp only [Op.bytesLess]
    rw [ih]
    unfold cmpU cmpI
    have e1 : decide (x < y) = decide ((x.toNat : Int) < y.toNat) := by rw [decide_eq_decide, UInt8.lt_iff_toNat_lt]; omega
    by_cases h : (x.toNat : Int) < y.toNat
    · rw [e1]; simp [h]
    · by_cases h2 : (y.toNat : Int) < x.toNat
      · have : (x == y) = false := by simpa using fun e : x = y => by rw [e] at h2; omega
        rw [e1]; simp [h, h2, this]
      · have hxy : x = y := u8_eq.2 (by omega)
        rw [e1]; simp [hxy]
def partsC (a b : List UInt8) : Int :=
  if plainB a = true ∧ plainB b = true then cmpI (numV a) (numV b) else if plainB a = true then -1 else if plainB b = true then 1 else cmpB a b
def Okp (l : List UInt8) : Prop := plainB l = true → okB l = true
abbrev Ver := Int × Int × Int × ByteArray
def mayN (n : Int) : Bool := decide (0 ≤ n ∧ n ≤ 999999)
def letter (c : UInt8) : Bool := decide ((97 ≤ c.toNat ∧ c.toNat ≤ 122) ∨ (65 ≤ c.toNat ∧ c.toNat ≤ 90) ∨ (48 ≤ c.toNat ∧ c.toNat ≤ 57) ∨ c.toNat = 45)
def partB (l : List UInt8) : Bool := !l.isEmpty && decide (l.length ≤ 10) && l.all letter && (!plainB l || okB l)
def preB (l : List UInt8) : Bool := l.isEmpty || ((cuts 46 l).all partB && decide ((cuts 46 l).length ≤ 5))
def rightB (v : Ver) : Bool := mayN v.1 && mayN v.2.1 && mayN v.2.2.1 && preB (dl v.2.2.2)
def cmpP (a b : List UInt8) : Int := if a = b then 0 else if a = [] then 1 else if b = [] then -1 else rowsL partsC (cuts 46 a) (cuts 46 b)
def cmpV (a b : Ver) : Int := if cmpI a.1 b.1 = 0 then (if cmpI a.2.1 b.2.1 = 0 then (if cmpI a.2.2.1 b.2.2.1 = 0 then cmpP (dl a.2.2.2) (dl b.2.2.2) else cmpI a.2.2.1 b.2.2.1) else cmpI a.2.1 b.2.1) else cmpI a.1 b.1
theorem preB_parts {l : List UInt8} (h : preB l = true) (hne : l ≠ []) : ∀ x ∈ cuts 46 l, Okp x := by
  intro x hx
  unfold preB at h
  have : l.isEmpty = false := by cases l with
    | nil => exact absurd rfl hne
    | cons => rfl
  rw [this, Bool.false_or, Bool.and_eq_true, List.all_eq_true] at h
  have := h.1 x hx
  unfold partB at this
  intro hp
  rw [hp] at this
  simpa using (Bool.and_eq_true _ _ ▸ this).2
end Go.Proofs.YtijooffpjfhidaaGreatDoor.Vp
end
section
namespace Go.Proofs.YtijooffpjfhidaaGreatDoor.Vp
open Go Go.RowKit Go.Proofs.YtijooffpjfhidaaGreatDoor.Txt Go.Proofs.YtijooffpjfhidaaGreatDoor.Trim Go.Proofs.YtijooffpjfhidaaGreatDoor.Num
def zeroV : Ver := (0, 0, 0, mk [])
def told (v : Ver) : List UInt8 := Lib.decDigits v.1.toNat ++ 46 :: (Lib.decDigits v.2.1.toNat ++ 46 :: Lib.decDigits v.2.2.1.toNat) ++ (if dl v.2.2.2 = [] then [] else 45 :: dl v.2.2.2)
def printP (v : Ver) : List UInt8 × Bool := if rightB v = true then (told v, true) else ([], false)
def parse3 (more : Bool) (pre : List UInt8) : List (List UInt8) → Ver × Bool
  | [a, b, d] => if (okB a && okB b && okB d && !(more && pre.isEmpty) && preB pre) = true then ((numV a, numV b, numV d, mk pre), true) else (zeroV, false)
  | _ => (zeroV, false)
theorem parse3_three (more : Bool) (pre a b d : List UInt8) : parse3 more pre [a, b, d] = if (okB a && okB b && okB d && !(more && pre.isEmpty) && preB pre) = true then ((((numV a : Int), (numV b : Int), (numV d : Int), mk pre) : Ver), true) else (zeroV, false) := rfl
def parseP (s : List UInt8) : Ver × Bool := parse3 (cutL 45 s).2.2 (cutL 45 s).2.1 (cuts 46 (cutL 45 s).1)
theorem mayN_iff {n : Int} : mayN n = true ↔ 0 ≤ n ∧ n ≤ 999999 := by unfold mayN; simp
theorem right_nums {v : Ver} (h : rightB v = true) : (0 ≤ v.1 ∧ v.1 ≤ 999999) ∧ (0 ≤ v.2.1 ∧ v.2.1 ≤ 999999) ∧ (0 ≤ v.2.2.1 ∧ v.2.2.1 ≤ 999999) ∧ preB (dl v.2.2.2) = true := by
  unfold rightB at h
  simp only [Bool.and_eq_true] at h
  exact ⟨mayN_iff.1 h.1.1.1, mayN_iff.1 h.1.1.2, mayN_iff.1 h.1.2, h.2⟩
theorem parse3_cases (more : Bool) (pre : List UInt8) (l : List (List UInt8)) : (∃ a b d, l = [a, b, d]) ∨ (l.length ≠ 3 ∧ parse3 more pre l = (zeroV, false)) := by
  match l with
  | [] => exact .inr ⟨by simp, rfl⟩
  | [_] => exact .inr ⟨by simp, rfl⟩
  | [_, _] => exact .inr ⟨by simp, rfl⟩
  | [a, b, d] => exact .inl ⟨a, b, d, rfl⟩
  | _ :: _ :: _ :: _ :: _ => exact .inr ⟨by simp, rfl⟩
theorem told_parts {s : List UInt8} {a b d : List UInt8} (hc : cuts 46 (cutL 45 s).1 = [a, b, d]) (ha : okB a = true) (hb : okB b = true) (hd : okB d = true) :
    told ((numV a : Int), (numV b : Int), (numV d : Int), mk (cutL 45 s).2.1) = (cutL 45 s).1 ++ (if (cutL 45 s).2.1 = [] then [] else 45 :: (cutL 45 s).2.1) := by
  have hf := cuts_join 46 (cutL 45 s).1
  rw [hc] at hf
  unfold told
  simp only [Int.toNat_natCast, (okB_num ha).2.1, (okB_num hb).2.1, (okB_num hd).2.1, dl_mk]
  rw [← hf]
  rfl
theorem parse_right {s : List UInt8} {v : Ver} (h : parseP s = (v, true)) : rightB v = true ∧ told v = s := by
  unfold parseP at h
  rcases parse3_cases (cutL 45 s).2.2 (cutL 45 s).2.1 (cuts 46 (cutL 45 s).1) with ⟨a, b, d, hc⟩ | ⟨_, hn⟩
  · have ht := @told_parts s a b d hc
    rw [hc, parse3_three] at h
    split at h
    · rename_i hb
      simp only [Bool.and_eq_true] at hb
      obtain ⟨⟨⟨⟨ha, hb⟩, hd⟩, hm⟩, hp⟩ := hb
      obtain rfl := (Prod.mk.inj h).1
      have na := okB_num ha
      have nb := okB_num hb
      have nd := okB_num hd
      refine ⟨?_, ?_⟩
      · unfold rightB
        simp only [dl_mk, hp, Bool.and_true, Bool.and_eq_true, mayN_iff]
        omega
      · rw [ht ha hb hd]
        have hk := cutL_back 45 s
        cases hmm : (cutL 45 s).2.2 with
        | true =>
          rw [hmm] at hm
          have hne : (cutL 45 s).2.1 ≠ [] := by
            intro e
            rw [e] at hm
            cases hm
          rw [if_neg hne]
          exact (hk.1 hmm).symm
        | false =>
          have := hk.2 hmm
          rw [this.2, if_pos rfl, List.append_nil]
          exact this.1
    · cases (Prod.mk.inj h).2
  · rw [hn] at h
    cases (Prod.mk.inj h).2
theorem parse_none {s : List UInt8} {v : Ver} (h : parseP s = (v, false)) : v = zeroV := by
  unfold parseP at h
  rcases parse3_cases (cutL 45 s).2.2 (cutL 45 s).2.1 (cuts 46 (cutL 45 s).1) with ⟨a, b, d, hc⟩ | ⟨_, hn⟩
  · rw [hc, parse3_three] at h
    split at h
    · cases (Prod.mk.inj h).2
    · exact (Prod.mk.inj h).1.symm
  · rw [hn] at h
    exact (Prod.mk.inj h).1.symm
theorem told_len {v : Ver} (h : rightB v = true) : (told v).length ≤ 21 + v.2.2.2.size := by
  obtain ⟨h1, h2, h3, _⟩ := right_nums h
  have l1 := (okB_plain (okB_dec (u := v.1.toNat) (by omega))).2.1
  have l2 := (okB_plain (okB_dec (u := v.2.1.toNat) (by omega))).2.1
  have l3 := (okB_plain (okB_dec (u := v.2.2.1.toNat) (by omega))).2.1
  have hs : (dl v.2.2.2).length = v.2.2.2.size := len _
  unfold told
  by_cases he : dl v.2.2.2 = []
  · rw [if_pos he]; simp; omega
  · rw [if_neg he]; simp; omega
end Go.Proofs.YtijooffpjfhidaaGreatDoor.Vp
end
section
namespace Go.Proofs.YtijooffpjfhidaaGreatDoor.Vp
open Go Go.RowKit Go.Proofs.YtijooffpjfhidaaGreatDoor.Txt Go.Proofs.YtijooffpjfhidaaGreatDoor.Trim Go.Proofs.YtijooffpjfhidaaGreatDoor.Num Go.Proofs.YtijooffpjfhidaaGreatDoor.Seq
def cut2 : List UInt8 → List UInt8 × List UInt8 × Bool
  | [] => ([], [], false)
  | [x] => ([x], [], false)
  | x :: y :: r => if x = 124 ∧ y = 124 then ([], r, true) else (x :: (cut2 (y :: r)).1, (cut2 (y :: r)).2.1, (cut2 (y :: r)).2.2)
def cuts2 : List UInt8 → List (List UInt8)
  | [] => [[]]
  | [x] => [[x]]
  | x :: y :: r => if x = 124 ∧ y = 124 then [] :: cuts2 r else (x :: (cuts2 (y :: r)).headD []) :: (cuts2 (y :: r)).tail
theorem cut2_cons (x y : UInt8) (r : List UInt8) : cut2 (x :: y :: r) = if x = 124 ∧ y = 124 then ([], r, true) else (x :: (cut2 (y :: r)).1, (cut2 (y :: r)).2.1, (cut2 (y :: r)).2.2) := by rw [cut2]
theorem cuts2_cons (x y : UInt8) (r : List UInt8) : cuts2 (x :: y :: r) = if x = 124 ∧ y = 124 then [] :: cuts2 r else (x :: (cuts2 (y :: r)).headD []) :: (cuts2 (y :: r)).tail := by rw [cuts2]
theorem cuts2_ne (l : List UInt8) : cuts2 l ≠ [] := by
  match l with
  | [] => simp [cuts2]
  | [x] => simp [cuts2]
  | x :: y :: r => rw [cuts2_cons]; split <;> simp
theorem cuts2_cut : ∀ l : List UInt8, cuts2 l = (cut2 l).1 :: (if (cut2 l).2.2 = true then cuts2 (cut2 l).2.1 else [])
  | [] => by simp [cut2, cuts2]
  | [x] => by simp [cut2, cuts2]
  | x :: y :: r => by
    have ih := cuts2_cut (y :: r)
    rw [cuts2_cons, cut2_cons]
    by_cases h : x = 124 ∧ y = 124
    · simp only [if_pos h]; simp
    · simp only [if_neg h]
      conv => lhs; rw [ih]
      rfl
theorem pre2 (x y : UInt8) (r : List UInt8) : ([124, 124] : List UInt8).isPrefixOf (x :: y :: r) = decide (x = 124 ∧ y = 124) := by
  simp only [List.isPrefixOf, Bool.and_true]
  by_cases h1 : x = 124
  · subst h1
    by_cases h2 : y = 124
    · subst h2; rfl
    · have : ((124 : UInt8) == y) = false := beq_eq_false_iff_ne.2 (fun e => h2 e.symm)
      rw [this, decide_eq_false (fun e => h2 e.2)]; rfl
  · have : ((124 : UInt8) == x) = false := beq_eq_false_iff_ne.2 (fun e => h1 e.symm)
    rw [this, decide_eq_false (fun e => h1 e.1)]; rfl
theorem cut2_index : ∀ l : List UInt8, cut2 l = if 0 ≤ Lib.index l [124, 124] then (l.take (Lib.index l [124, 124]).toNat, l.drop ((Lib.index l [124, 124]).toNat + 2), true) else (l, [], false)
  | [] => by simp [cut2, Lib.index]
  | [x] => by
    have : Lib.index [x] [124, 124] = -1 := by simp [Lib.index, List.isPrefixOf]
    rw [this]; simp [cut2]
  | x :: y :: r => by
    have ih := cut2_index (y :: r)
    have hg := Lib.index_ge (y :: r) [124, 124]
    have hi : Lib.index (x :: y :: r) [124, 124] = if x = 124 ∧ y = 124 then 0 else if Lib.index (y :: r) [124, 124] == -1 then -1 else Lib.index (y :: r) [124, 124] + 1 := by
      conv => lhs; unfold Lib.index
      rw [pre2]
      by_cases h : x = 124 ∧ y = 124 <;> simp [h]
    rw [cut2_cons, hi]
    by_cases h : x = 124 ∧ y = 124
    · simp [h]
    · simp only [if_neg h]
      generalize Lib.index (y :: r) [124, 124] = q at *
      rw [ih]
      by_cases hq : 0 ≤ q
      · obtain ⟨n, rfl⟩ := Int.eq_ofNat_of_zero_le hq
        have h1 : ((n : Int) == -1) = false := by rw [beq_eq_false_iff_ne]; omega
        have e1 : ((n : Int) + 1).toNat = n + 1 := by omega
        rw [h1]
        simp only [Bool.false_eq_true, if_false]
        rw [if_pos hq, if_pos (by omega), e1, Int.toNat_natCast]
        simp
      · have : q = -1 := by omega
        subst this
        simp
theorem cutD_eq (s : ByteArray) : cutD s = (mk (cut2 (dl s)).1, mk (cut2 (dl s)).2.1, (cut2 (dl s)).2.2) := by
  have h := cut2_index (dl s)
  unfold cutD
  unfold dl at h ⊢
  rw [h]
  split
  · refine Prod.ext ?_ (Prod.ext ?_ rfl)
    · refine ext ?_; rw [extract_list, List.drop_zero]; rfl
    · refine ext ?_
      rw [extract_list]
      show List.drop _ (List.take s.data.size s.data.toList) = _
      rw [List.take_of_length_le (by simp)]; rfl
  · exact Prod.ext (eq_mk s) rfl
theorem cut2_lt (l : List UInt8) : (cut2 l).2.2 = true → (cut2 l).1.length + (cut2 l).2.1.length + 2 = l.length := by
  match l with
  | [] => intro h; simp [cut2] at h
  | [x] => intro h; simp [cut2] at h
  | x :: y :: r =>
    intro h
    have ih := cut2_lt (y :: r)
    rw [cut2_cons] at h ⊢
    by_cases hx : x = 124 ∧ y = 124
    · simp [hx]
    · simp only [if_neg hx] at h ⊢
      have := ih h
      simp at this ⊢; omega
theorem cutsDF_eq : ∀ (k : Nat) (s : ByteArray), s.size < k → (cutsDF k s) = (cuts2 (dl s)).map mk
  | 0, s, h => by omega
  | k + 1, s, h => by
    rw [cutsDF, cuts2_cut, cutD_eq]
    simp only [List.map_cons]
    by_cases hc : (cut2 (dl s)).2.2 = true
    · have hl := cut2_lt _ hc
      have : (dl s).length = s.size := len s
      rw [if_pos hc, if_pos hc, cutsDF_eq k _ (by rw [mk_size]; omega)]; rfl
    · rw [if_neg hc, if_neg hc]; rfl
theorem cutsD_eq (s : ByteArray) : cutsD s = (cuts2 (dl s)).map mk := cutsDF_eq _ s (by omega)
theorem cuts2_len : ∀ l : List UInt8, (cuts2 l).length ≤ l.length + 1
  | [] => by simp [cuts2]
  | [x] => by simp [cuts2]
  | x :: y :: r => by
    have ih1 := cuts2_len (y :: r)
    have ih2 := cuts2_len r
    rw [cuts2_cons]
    split <;> simp at * <;> omega
theorem cuts2_le : ∀ (l : List UInt8), ∀ x ∈ cuts2 l, x.length ≤ l.length
  | [], x, hx => by simp [cuts2] at hx; subst hx; simp
  | [y], x, hx => by simp [cuts2] at hx; subst hx; simp
  | y :: z :: r, x, hx => by
    have ih1 := cuts2_le (z :: r)
    have ih2 := cuts2_le r
    rw [cuts2_cons] at hx
    split at hx
    · rcases List.mem_cons.1 hx with rfl | hx
      · simp
      · have := ih2 x hx; simp; omega
    · cases hc : cuts2 (z :: r) with
      | nil => exact absurd hc (cuts2_ne _)
      | cons u t =>
        rw [hc] at hx ih1
        rcases List.mem_cons.1 hx with rfl | hx
        · have := ih1 u List.mem_cons_self; simp at this ⊢; omega
        · have := ih1 x (List.mem_cons_of_mem _ hx); simp at this ⊢; omega
def words (l : List UInt8) : List (List UInt8) := (cuts 32 l).filter fun w => !w.isEmpty
abbrev Bd := Int × Ver
abbrev Ran := List (List Bd)
def rightA (l : List Bd) : Bool := decide (l.length ≤ 8) && l.all fun b => decide (1 ≤ b.1 ∧ b.1 ≤ 5) && rightB b.2
def rightR (r : Ran) : Bool := decide (1 ≤ r.length ∧ r.length ≤ 8) && r.all rightA
def sgn (o : Int) : List UInt8 := if o = 1 then [61] else if o = 2 then [60] else if o = 3 then [60, 61] else if o = 4 then [62] else [62, 61]
def wordB (b : Bd) : List UInt8 := sgn b.1 ++ told b.2
def wordA (l : List Bd) : List UInt8 := if l = [] then [42] else joinC 32 (l.map wordB)
def joinD : List (List UInt8) → List UInt8
  | [] => []
  | [x] => x
  | x :: y :: t => x ++ 32 :: 124 :: 124 :: 32 :: joinD (y :: t)
def wordR (r : Ran) : List UInt8 := joinD (r.map wordA)
def printR (r : Ran) : List UInt8 × Bool := if rightR r = true then (wordR r, true) else ([], false)
def nextV (v : Ver) (tilde : Bool) : Ver :=
  if tilde = true then (v.1, v.2.1 + 1, 0, mk []) else if v.1 > 0 then (v.1 + 1, 0, 0, mk []) else if v.2.1 > 0 then (v.1, v.2.1 + 1, 0, mk []) else (v.1, v.2.1, v.2.2.1 + 1, mk [])
def opW : List UInt8 → Int × List UInt8
  | [] => (1, [])
  | c :: r => if c = 60 then (if r.head? = some 61 then (3, r.tail) else (2, r)) else if c = 62 then (if r.head? = some 61 then (5, r.tail) else (4, r)) else if c = 61 then (1, r) else (1, c :: r)
def wordP : List UInt8 → Option (List Bd)
  | [] => some []
  | c :: r => if c = 42 ∧ r = [] then some []
    else if c = 94 ∨ c = 126 then (if (parseP r).2 = true then some [(5, (parseP r).1), (2, nextV (parseP r).1 (decide (c = 126)))] else none)
    else if (parseP (opW (c :: r)).2).2 = true then some [((opW (c :: r)).1, (parseP (opW (c :: r)).2).1)] else none
def altP : List (List UInt8) → Option (List Bd)
  | [] => some []
  | w :: ws => (wordP w).bind fun a => (altP ws).bind fun b => some (a ++ b)
def altsP : List (List UInt8) → Option Ran
  | [] => some []
  | l :: ls => (altP (words l)).bind fun a => (altsP ls).bind fun r => some (a :: r)
def finR : Option Ran → Ran × Bool
  | some r => if rightR r = true then (r, true) else ([], false)
  | none => ([], false)
def parseR (s : List UInt8) : Ran × Bool := finR (altsP (cuts2 s))
theorem rightA_mem {l : List Bd} (h : rightA l = true) : l.length ≤ 8 ∧ ∀ b ∈ l, (1 ≤ b.1 ∧ b.1 ≤ 5) ∧ rightB b.2 = true := by
  unfold rightA at h
  rw [Bool.and_eq_true] at h
  refine ⟨of_decide_eq_true h.1, fun b hb => ?_⟩
  have := List.all_eq_true.1 h.2 b hb
  rw [Bool.and_eq_true] at this
  exact ⟨of_decide_eq_true this.1, this.2⟩
theorem joinD_cons (x : List UInt8) {t : List (List UInt8)} (h : t ≠ []) : joinD (x :: t) = x ++ 32 :: 124 :: 124 :: 32 :: joinD t := by
  cases t with
  | nil => exact absurd rfl h
  | cons y t => rfl
theorem rightR_mem {r : Ran} (h : rightR r = true) : (1 ≤ r.length ∧ r.length ≤ 8) ∧ ∀ l ∈ r, rightA l = true := by
  unfold rightR at h
  rw [Bool.and_eq_true] at h
  exact ⟨of_decide_eq_true h.1, List.all_eq_true.1 h.2⟩
theorem parseR_right {s : List UInt8} {r : Ran} (h : parseR s = (r, true)) : rightR r = true := by
  unfold parseR at h
  cases hc : altsP (cuts2 s) with
  | none => rw [hc] at h; simp [finR] at h
  | some q =>
    rw [hc] at h
    simp only [finR] at h
    split at h
    · rename_i hq
      obtain rfl := (Prod.mk.inj h).1
      exact hq
    · simp at h
theorem parseR_none {s : List UInt8} {r : Ran} (h : parseR s = (r, false)) : r = [] := by
  unfold parseR at h
  cases hc : altsP (cuts2 s) with
  | none => rw [hc] at h; simp [finR] at h; exact h
  | some q =>
    rw [hc] at h
    simp only [finR] at h
    split at h
    · simp at h
    · exact (Prod.mk.inj h).1.symm
end Go.Proofs.YtijooffpjfhidaaGreatDoor.Vp
end
section
namespace Go.Proofs.YtijooffpjfhidaaGreatDoor.Txt
open Go Go.RowKit Go.Proofs.YtijooffpjfhidaaGreatDoorW.PrintWords
structure Lt {α : Type} (l : List α) (i : Int) (r : List α) : Prop where
  ge : 0 ≤ i
  le : i ≤ l.length
  eq : l.drop i.toNat = r
section
variable {α : Type} {l r : List α} {i : Int} {x : α}
theorem Lt.zero (l : List α) : Lt l 0 l := ⟨by omega, by omega, rfl⟩
theorem Lt.length (h : Lt l i r) : (r.length : Int) = l.length - i := by
  have h1 := h.ge
  have h2 := h.le
  rw [← h.eq, List.length_drop]
  omega
theorem Lt.not_lt (h : Lt l i []) : ¬ i < l.length := by have := h.length; simp at this; omega
theorem Lt.lt (h : Lt l i (x :: r)) : i < l.length := by have := h.length; simp at this; omega
theorem Lt.get (h : Lt l i (x :: r)) : l[i.toNat]? = some x := by
  have := congrArg (·[0]?) h.eq
  simpa using this
theorem Lt.rd (h : Lt l i (x :: r)) (d : α) : rdOf d l i = x := by
  unfold rdOf
  rw [List.getD_eq_getElem?_getD, h.get]; rfl
theorem Lt.next (h : Lt l i (x :: r)) : Lt l (i + 1) r := by
  have h1 := h.lt
  have h0 := h.ge
  refine ⟨by omega, by omega, ?_⟩
  rw [show (i + 1).toNat = i.toNat + 1 by omega, ← List.drop_drop, h.eq]
  rfl
theorem Lt.wrap (h : Lt l i (x :: r)) (hs : l.length ≤ 4611686018427387904) : wrap64 (i + 1) = i + 1 := by
  have h1 := h.lt
  have h0 := h.ge
  unfold wrap64
  omega
end
theorem wrapS {x : Int} (h0 : 0 ≤ x) (h1 : x ≤ 4294967296) : wrap64 x = x := by unfold wrap64; omega
theorem pred {k n : Nat} (h : n < k) : ∃ m, k = m + 1 ∧ n ≤ m := ⟨k - 1, by omega, by omega⟩
end Go.Proofs.YtijooffpjfhidaaGreatDoor.Txt
end
section
namespace Go.Proofs.YtijooffpjfhidaaGreatDoor.Vp
open Go Go.RowKit Go.Proofs.YtijooffpjfhidaaGreatDoorW.PrintWords Go.Proofs.YtijooffpjfhidaaGreatDoor.Txt Go.Proofs.YtijooffpjfhidaaGreatDoor.Trim Go.Proofs.YtijooffpjfhidaaGreatDoor.Num Go.Proofs.YtijooffpjfhidaaGreatDoor.Seq Go.Proofs.YtijooffpjfhidaaGreatDoor.G
theorem dl_len (s : ByteArray) : (dl s).length = s.size := len s
theorem ne_nil (l : List UInt8) : (l != []) = !l.isEmpty := by cases l <;> rfl
theorem At0 (s : ByteArray) : At s 0 (dl s) := At.zero s
end Go.Proofs.YtijooffpjfhidaaGreatDoor.Vp
end
section
namespace Go.Proofs.YtijooffpjfhidaaGreatDoor.Vp
open Go Go.RowKit Go.Proofs.YtijooffpjfhidaaGreatDoorW.PrintWords Go.Proofs.YtijooffpjfhidaaGreatDoor.Txt Go.Proofs.YtijooffpjfhidaaGreatDoor.Trim Go.Proofs.YtijooffpjfhidaaGreatDoor.Num Go.Proofs.YtijooffpjfhidaaGreatDoor.Seq Go.Proofs.YtijooffpjfhidaaGreatDoor.G
def flat5 (R : Ver × Bool) : Int × Int × Int × ByteArray × Bool := (R.1.1, R.1.2.1, R.1.2.2.1, R.1.2.2.2, R.2)
theorem e46 : (⟨#[46]⟩ : ByteArray) = mk [46] := rfl
theorem e45 : (⟨#[45]⟩ : ByteArray) = mk [45] := rfl
theorem e0 : (⟨#[]⟩ : ByteArray) = mk [] := rfl
theorem dec_len {n : Nat} (h : n ≤ 999999) : (Lib.decDigits n).length ≤ 6 := (okB_plain (okB_dec h)).2.1
theorem cmpB_less (a b : List UInt8) : (if Op.bytesLess a b = true then some (-1) else if Op.bytesLess b a = true then some 1 else some (0 : Int)) = some (cmpB a b) := by
  rw [less_cmpB, less_cmpB, cmpB_ord.anti b a]
  rcases cmpB_ord.rng a b with h | h | h <;> rw [h] <;> rfl
theorem map_dl_mk (l : List (List UInt8)) : (l.map mk).map dl = l := by
  rw [List.map_map]
  exact (List.map_congr_left (fun _ _ => rfl)).trans (List.map_id l)
def cmpT (v w : Ver) : Int := if rightB v = true ∧ rightB w = true then cmpV v w else 0
end Go.Proofs.YtijooffpjfhidaaGreatDoor.Vp
end
section
namespace Go.Proofs.YtijooffpjfhidaaGreatDoor.Vp
open Go Go.RowKit Go.Proofs.YtijooffpjfhidaaGreatDoorW.PrintWords Go.Proofs.YtijooffpjfhidaaGreatDoor.Txt Go.Proofs.YtijooffpjfhidaaGreatDoor.Trim Go.Proofs.YtijooffpjfhidaaGreatDoor.Num Go.Proofs.YtijooffpjfhidaaGreatDoor.Seq Go.Proofs.YtijooffpjfhidaaGreatDoor.G Go.Proofs.YtijooffpjfhidaaGreatDoor.Cut
theorem count_cuts (c : UInt8) : ∀ l : List UInt8, (cuts c l).length = Lib.countByte l c + 1
  | [] => rfl
  | x :: r => by
    have ih := count_cuts c r
    unfold Lib.countByte at ih ⊢
    rw [cuts_cons, List.count_cons]
    by_cases h : x = c
    · rw [if_pos h, if_pos (by simpa using h), List.length_cons, ih]
    · rw [if_neg h, if_neg (by simpa using h), List.length_cons, List.length_tail, ih]; omega
theorem idx_eq (s : ByteArray) : strings_Index.f s ⟨#[46]⟩ = some (Lib.indexByte (dl s) 46) := by
  unfold strings_Index.f
  exact if_pos rfl
theorem cnt_eq (s : ByteArray) : strings_Count.f s ⟨#[46]⟩ = some ((Lib.countByte (dl s) 46 : Nat) : Int) := by
  unfold strings_Count.f
  exact if_pos rfl
theorem scut_eq (s : ByteArray) (hs : s.size ≤ 9223372036854775807) : strings_Cut.f s ⟨#[45]⟩ = some (Cut.cutB s 45) := by
  unfold strings_Cut.f
  exact (if_pos rfl).trans (if_pos hs)
theorem wrapN (q : Nat) (h : q ≤ 4294967290) : wrap64 ((q : Int) + 1) = ((q + 1 : Nat) : Int) := by rw [wrapS (by omega) (by omega)]; omega
theorem set_take {α : Type} (L : List α) (i : Nat) (x : α) (h : i < L.length) : (L.set i x).take (i + 1) = L.take i ++ [x] := by
  rw [List.take_add_one, List.take_set_of_le (Nat.le_refl i), List.getElem?_set_self h]
  rfl
theorem split_step (k q i n : Nat) (t x1 x2 : ByteArray) (L : List ByteArray) (hidx : Lib.indexByte (dl t) 46 = (q : Int)) (h1 : t.extract 0 q = x1) (h2 : t.extract (q + 1) t.size = x2) (hq : q < t.size) (hs : t.size ≤ 2147483647) (hi : i < n) (hL : i < L.length) (hn : i ≤ 2147483647) :
    strings_genSplit.l0 (k + 1) t ⟨#[46]⟩ 0 (n : Int) L (i : Int) = strings_genSplit.l0 k x2 ⟨#[46]⟩ 0 (n : Int) (L.set i x1) ((i + 1 : Nat) : Int) := by
  have w0 : wrap64 ((q : Int) + 0) = q := by rw [Int.add_zero]; exact wrapS (by omega) (by omega)
  have w1 := wrapN q (by omega)
  have w2 := wrapN i (by omega)
  have c1 : (i : Int) < (n : Int) := by omega
  have c2 : ¬ (q : Int) < 0 := by omega
  have c3 : 0 ≤ (q : Int) := by omega
  have c4 : (q : Int) ≤ t.size := by omega
  have c5 : 0 ≤ (i : Int) := by omega
  have c6 : (i : Int) < (L.length : Int) := by omega
  have c7 : 0 ≤ ((q + 1 : Nat) : Int) := by omega
  have c8 : ((q + 1 : Nat) : Int) ≤ t.size := by omega
  have e1 : (q : Int).toNat = q := by omega
  have e2 : ((q + 1 : Nat) : Int).toNat = q + 1 := by omega
  have e3 : (i : Int).toNat = i := by omega
  simp only [strings_genSplit.l0]
  rw [if_pos c1, idx_eq, hidx, Option.bind_some, if_neg c2, w0, if_pos c3, if_pos c4, if_pos c5, if_pos c6, show (((⟨#[46]⟩ : ByteArray).size : Nat) : Int) = 1 from rfl, w1, if_pos c7, if_pos c8, w2, e1, e2, e3, h1, h2]
theorem split_loop : ∀ (j k : Nat) (t : ByteArray) (L : List ByteArray) (i : Nat), (cuts 46 (dl t)).length = j + 1 → L.length = i + j + 1 → i + j ≤ 2147483647 → t.size ≤ 2147483647 → j < k →
    strings_genSplit.l0 k t ⟨#[46]⟩ 0 ((i + j : Nat) : Int) L (i : Int) = some (L.take i ++ (cuts 46 (dl t)).map mk)
  | 0, k, t, L, i, hc, hL, hb, hs, hk => by
    obtain ⟨k, rfl, hk'⟩ := pred hk
    have hw : wrap64 ((i : Int) + 1) = i + 1 := wrapS (by omega) (by omega)
    simp only [strings_genSplit.l0]
    rw [if_neg (by omega), if_pos (by omega), if_pos (by omega), hw, if_pos (by omega), if_pos (by omega)]
    have e1 : (i : Int).toNat = i := by omega
    have e2 : ((i : Int) + 1).toNat = i + 1 := by omega
    rw [e1, e2, set_take _ _ _ (by omega)]
    have hcc := cuts_cut 46 (dl t)
    have hb2 := cutL_back 46 (dl t)
    cases hm : (cutL 46 (dl t)).2.2 with
    | true =>
      rw [hm, if_pos rfl] at hcc
      rw [hcc, List.length_cons] at hc
      have := List.length_pos_iff.2 (cuts_ne 46 (cutL 46 (dl t)).2.1)
      omega
    | false =>
      rw [hm, if_neg (by decide)] at hcc
      rw [hcc, (hb2.2 hm).1]
      simp [mk_dl]
  | j + 1, k, t, L, i, hc, hL, hb, hs, hk => by
    obtain ⟨k, rfl, hk'⟩ := pred hk
    have hcc := cuts_cut 46 (dl t)
    have hidx := cutL_index 46 (dl t)
    have hcb : Cut.cutB t 46 = (mk (cutL 46 (dl t)).1, mk (cutL 46 (dl t)).2.1, (cutL 46 (dl t)).2.2) := cutB_eq t 46
    have hlt := Cut.indexByte_lt t.data.toList 46
    rw [len] at hlt
    cases hm : (cutL 46 (dl t)).2.2 with
    | false =>
      rw [hm, if_neg (by decide)] at hcc
      rw [hcc] at hc
      simp at hc
    | true =>
      rw [hm, if_pos rfl] at hcc
      have hge : 0 ≤ Lib.indexByte (dl t) 46 := by
        apply Classical.byContradiction
        intro hn
        rw [if_neg hn] at hidx
        rw [hidx] at hm
        cases hm
      unfold Cut.cutB at hcb
      rw [if_pos (show 0 ≤ Lib.indexByte t.data.toList 46 from hge)] at hcb
      have h1 := (Prod.mk.inj hcb).1
      have h2 := (Prod.mk.inj (Prod.mk.inj hcb).2).1
      have hlt2 := cutL_lt 46 (dl t) hm
      rw [dl_len] at hlt2
      obtain ⟨q, hq⟩ := Int.eq_ofNat_of_zero_le hge
      have hq' : Lib.indexByte t.data.toList 46 = (q : Int) := hq
      rw [hq'] at h1 h2 hlt
      rw [Int.toNat_natCast] at h1 h2
      have hc2 : (cuts 46 (cutL 46 (dl t)).2.1).length = j + 1 := by rw [hcc, List.length_cons] at hc; omega
      have hsz : (mk (cutL 46 (dl t)).2.1).size ≤ 2147483647 := by rw [mk_size]; omega
      have hst := split_step k q i (i + (j + 1)) t _ _ L hq h1 h2 (Int.ofNat_lt.1 hlt) hs (by omega) (by omega) (by omega)
      have ih := split_loop j k (mk (cutL 46 (dl t)).2.1) (L.set i (mk (cutL 46 (dl t)).1)) (i + 1) hc2 (by rw [List.length_set]; omega) (by omega) hsz (by omega)
      rw [show i + 1 + j = i + (j + 1) by omega] at ih
      rw [hst]
      rw [ih, set_take _ _ _ (by omega), hcc]
      simp [dl_mk]
theorem split_eq (k : Nat) (s : ByteArray) (hs : s.size ≤ 2147483640) (hk : s.size + 10 < k) : strings_Split.f k s ⟨#[46]⟩ = some ((cuts 46 (dl s)).map mk) := by
  have hcnt := count_cuts 46 (dl s)
  have hlen := cuts_len 46 (dl s)
  rw [dl_len] at hlen
  unfold strings_Split.f strings_genSplit.f
  rw [if_neg (by decide), toList_eq, if_neg (by decide), if_pos (by decide)]
  rw [cnt_eq]
  simp only [Option.bind_some]
  change ((strings_genSplit.j0 k s ⟨#[46]⟩ 0 (wrap64 ((Lib.countByte (dl s) 46 : Nat) + 1))).bind _) = _
  obtain ⟨n, hn⟩ : ∃ n, (cuts 46 (dl s)).length = n + 1 := ⟨(cuts 46 (dl s)).length - 1, by have := List.length_pos_iff.2 (cuts_ne 46 (dl s)); omega⟩
  have e1 : wrap64 (((Lib.countByte (dl s) 46 : Nat) : Int) + 1) = ((n + 1 : Nat) : Int) := by rw [wrapS (by omega) (by omega)]; omega
  obtain ⟨k, rfl, hk'⟩ := pred hk
  simp only [strings_genSplit.j0]
  have e2 : wrap64 ((s.size : Int) + 1) = s.size + 1 := wrapS (by omega) (by omega)
  have e3 : mn ((n + 1 : Nat) : Int) ((s.size : Int) + 1) = ((n + 1 : Nat) : Int) := by unfold mn; rw [if_neg (by omega)]
  have e4 : wrap64 (((n + 1 : Nat) : Int) - 1) = ((0 + n : Nat) : Int) := by rw [wrapS (by omega) (by omega)]; omega
  rw [e1, e2, e3, e4, if_pos (by omega), if_pos (by omega)]
  have e5 : (((n + 1 : Nat) : Int)).toNat = n + 1 := by omega
  rw [e5]
  have := split_loop n k s (List.replicate (n + 1) (⟨#[]⟩ : ByteArray)) 0 hn (by simp) (by omega) (by omega) (by omega)
  rw [show ((0 : Nat) : Int) = 0 from rfl] at this
  rw [this]
  simp
theorem or32 : ∀ d : Fin 256, (Go.bits .or .u8 (d.val : Int) 32 ≥ 97 ∧ Go.bits .or .u8 (d.val : Int) 32 ≤ 122) ↔ ((97 ≤ d.val ∧ d.val ≤ 122) ∨ (65 ≤ d.val ∧ d.val ≤ 90)) := by decide +kernel
theorem ppart_step (k : Nat) {s : ByteArray} {i : Int} {c : UInt8} {r : List UInt8} (h : At s i (c :: r)) (hs : s.size ≤ 4611686018427387904) :
    version_part.l0 (k + 1) s s.size i = if letter c = true then version_part.l0 k s s.size (i + 1) else some false := by
  simp only [version_part.l0]
  rw [if_pos h.lt, if_pos h.ge, if_pos h.lt, h.byte, h.wrap hs]
  generalize version_part.l0 k s s.size (i + 1) = X
  have ho := or32 ⟨c.toNat, UInt8.toNat_lt c⟩
  simp only at ho
  have hl : letter c = decide ((97 ≤ (c.toNat : Int) ∧ (c.toNat : Int) ≤ 122) ∨ (65 ≤ (c.toNat : Int) ∧ (c.toNat : Int) ≤ 90) ∨ (48 ≤ (c.toNat : Int) ∧ (c.toNat : Int) ≤ 57) ∨ (c.toNat : Int) = 45) := by
    unfold letter; rw [decide_eq_decide]; omega
  rw [hl]
  clear hl h
  generalize Go.bits .or .u8 (c.toNat : Int) 32 = o at *
  have ho' : (o ≥ 97 ∧ o ≤ 122) ↔ ((97 ≤ (c.toNat : Int) ∧ (c.toNat : Int) ≤ 122) ∨ (65 ≤ (c.toNat : Int) ∧ (c.toNat : Int) ≤ 90)) := by rw [ho]; omega
  clear ho
  generalize (c.toNat : Int) = d at *
  by_cases hL : (97 ≤ d ∧ d ≤ 122) ∨ (65 ≤ d ∧ d ≤ 90) ∨ (48 ≤ d ∧ d ≤ 57) ∨ d = 45
  · simp only [decide_eq_true hL, if_true]
    repeat' split
    all_goals first | rfl | (exfalso; omega)
  · simp only [decide_eq_false hL, Bool.false_eq_true, if_false]
    repeat' split
    all_goals first | rfl | (exfalso; omega)
theorem number_eq (s : ByteArray) (hs : s.size ≤ 281474976710656) : version_number.f s = some (valA (dl s), plainB (dl s), okB (dl s)) := if_pos hs
theorem plain_ok (l : List UInt8) : (plainB l == okB l) = (!plainB l || okB l) := by
  cases hp : plainB l
  · have : okB l = false := by unfold okB; rw [hp]; rfl
    rw [this]; rfl
  · cases okB l <;> rfl
theorem ppart_loop : ∀ (r : List UInt8) (k : Nat) (s : ByteArray) (i : Int), At s i r → s.size ≤ 281474976710656 → r.length < k →
    version_part.l0 k s s.size i = some (r.all letter && (!(dl s).isEmpty && decide (s.size ≤ 10) && (!plainB (dl s) || okB (dl s))))
  | [], k, s, i, h, hs, hk => by
    obtain ⟨k, rfl, hk'⟩ := pred hk
    simp only [version_part.l0]
    rw [if_neg h.not_lt, number_eq s hs]
    simp only [Option.bind_some, toList_eq, plain_ok]
    change (if dl s = [] then _ else _) = _
    by_cases he : dl s = []
    · rw [if_pos he, he]; rfl
    · rw [if_neg he]
      have : (dl s).isEmpty = false := by cases hd : dl s with
        | nil => exact absurd hd he
        | cons => rfl
      rw [this]
      by_cases h10 : s.size ≤ 10
      · rw [if_pos (by omega), decide_eq_true h10]; rfl
      · rw [if_neg (by omega), decide_eq_false h10]; rfl
  | c :: r, k, s, i, h, hs, hk => by
    obtain ⟨k, rfl, hk'⟩ := pred hk
    rw [ppart_step k h (by omega), List.all_cons]
    cases letter c
    · simp
    · rw [if_pos rfl, ppart_loop r k s (i + 1) h.next hs (by simp at hk'; omega)]; rfl
theorem part_eq (k : Nat) (s : ByteArray) (hs : s.size ≤ 281474976710656) (hk : s.size < k) : version_part.f k s = some (partB (dl s)) := by
  unfold version_part.f
  rw [ppart_loop (dl s) k s 0 (At0 s) hs (by rw [dl_len]; exact hk)]
  unfold partB
  rw [dl_len]
  congr 1
  cases (dl s).isEmpty <;> cases decide (s.size ≤ 10) <;> cases (dl s).all letter <;> cases plainB (dl s) <;> cases okB (dl s) <;> rfl
theorem within_one (k : Nat) (l : List Int) (i : Int) (x : Int) (r : List Int) (h : Lt l i (x :: r)) (hl : l.length ≤ 100) : version_within.l0 (k + 1) l l.length i = if mayN x = true then version_within.l0 k l l.length (i + 1) else some false := by
  simp only [version_within.l0]
  have hr : rd l i = x := h.rd 0
  rw [if_pos h.lt, if_pos h.ge, if_pos h.lt, hr, h.wrap (by omega)]
  by_cases h1 : x < 0
  · rw [if_pos h1, if_neg (by rw [mayN_iff]; omega)]
  · rw [if_neg h1]
    by_cases h2 : x > 999999
    · rw [if_pos h2, if_neg (by rw [mayN_iff]; omega)]
    · rw [if_neg h2, if_pos (mayN_iff.2 (by omega))]
theorem within_loop : ∀ (r : List Int) (k : Nat) (l : List Int) (i : Int), Lt l i r → l.length ≤ 100 → r.length < k → version_within.l0 k l l.length i = some (r.all mayN)
  | [], k, l, i, h, hl, hk => by
    obtain ⟨k, rfl, hk'⟩ := pred hk
    simp only [version_within.l0]
    rw [if_neg h.not_lt]; rfl
  | x :: r, k, l, i, h, hl, hk => by
    obtain ⟨k, rfl, hk'⟩ := pred hk
    rw [within_one k l i x r h hl, List.all_cons]
    cases mayN x
    · simp
    · rw [if_pos rfl, within_loop r k l (i + 1) h.next hl (by simp at hk'; omega)]; rfl
theorem within_eq (k : Nat) (a b c : Int) (hk : 5 < k) : version_within.f k [a, b, c] = some (mayN a && mayN b && mayN c) := by
  unfold version_within.f
  rw [within_loop [a, b, c] k [a, b, c] 0 (Lt.zero _) (by simp) (by simp; omega)]
  simp [Bool.and_assoc]
theorem right_go (k N : Nat) (hN : N ≤ 281474976710656) (hk : N < k) : ∀ (l : List ByteArray) (n : Nat), (∀ x ∈ l, x.size ≤ N) → n ≤ 5 → version_right.go k l n = some ((l.all fun x => partB (dl x)) && decide (n + l.length ≤ 5))
  | [], n, _, hn => by
    simp only [version_right.go, List.all_nil, Bool.true_and, List.length_nil, Nat.add_zero]
    rw [decide_eq_true hn]
  | x :: l, n, hx, hn => by
    have h1 := hx x List.mem_cons_self
    simp only [version_right.go]
    rw [part_eq k x (by omega) (by omega)]
    simp only [Option.bind_some, List.all_cons, List.length_cons]
    cases partB (dl x)
    · simp
    · rw [if_neg (by decide)]
      by_cases h5 : 5 < n + 1
      · rw [if_pos h5, decide_eq_false (by omega), Bool.and_false]
      · rw [if_neg h5, right_go k N hN hk l (n + 1) (fun y hy => hx y (List.mem_cons_of_mem _ hy)) (by omega), Bool.true_and]
        rw [show n + 1 + l.length = n + (l.length + 1) by omega]
theorem right_eq (k : Nat) (v : Ver) (hs : v.2.2.2.size ≤ 140737488351232) (hk : v.2.2.2.size + 10 < k) : version_right.f k v.1 v.2.1 v.2.2.1 v.2.2.2 = some (rightB v) := by
  unfold version_right.f rightB preB
  rw [within_eq k _ _ _ (by omega), toList_eq]
  change (if (dl v.2.2.2).isEmpty = true then _ else _) = _
  cases he : (dl v.2.2.2).isEmpty with
  | true => rw [if_pos rfl]; simp
  | false =>
    rw [if_neg (by decide), if_pos (by omega), cutsL_mk, right_go k v.2.2.2.size (by omega) (by omega) _ 0 (fun x hx => by
      obtain ⟨y, hy, rfl⟩ := List.mem_map.1 hx
      have := cuts_le 46 _ y hy
      rw [dl_len] at this
      rw [mk_size]; exact this) (by omega)]
    simp only [Option.bind_some, List.all_map, List.length_map, Nat.zero_add, Bool.false_or]
    change (if ((cuts 46 (dl v.2.2.2)).all partB && decide ((cuts 46 (dl v.2.2.2)).length ≤ 5)) = true then _ else _) = _
    cases ((cuts 46 (dl v.2.2.2)).all partB && decide ((cuts 46 (dl v.2.2.2)).length ≤ 5)) <;> simp
theorem itoa_eq (n : Int) (h : 0 ≤ n ∧ n ≤ 999999) : strconv_Itoa.f n = some (mk (Lib.decDigits n.toNat)) := by
  unfold strconv_Itoa.f Lib.itoa
  rw [if_pos (by omega), if_pos (by omega), if_neg (by omega)]
theorem print_eq (k : Nat) (v : Ver) (hs : v.2.2.2.size ≤ 140737488351232) (hk : v.2.2.2.size + 10 < k) : version_Print.f k v.1 v.2.1 v.2.2.1 v.2.2.2 = some (mk (printP v).1, (printP v).2) := by
  unfold version_Print.f printP
  rw [right_eq k v hs hk]
  simp only [Option.bind_some]
  by_cases h : rightB v = true
  · obtain ⟨h1, h2, h3, _⟩ := right_nums h
    have l1 := dec_len (n := v.1.toNat) (by omega)
    have l2 := dec_len (n := v.2.1.toNat) (by omega)
    have l3 := dec_len (n := v.2.2.1.toNat) (by omega)
    have hl := dl_len v.2.2.2
    rw [if_pos h, if_pos h, itoa_eq _ h1, itoa_eq _ h2, itoa_eq _ h3]
    simp only [Option.bind_some, e46, e45, mk_append, mk_size, List.length_append, List.length_cons, List.length_nil, toList_eq]
    rw [if_pos (by omega), if_pos (by omega), if_pos (by omega), if_pos (by omega)]
    change (if dl v.2.2.2 = [] then _ else _) = _
    unfold told
    by_cases he : dl v.2.2.2 = []
    · rw [if_pos he, if_pos he]; simp
    · rw [if_neg he, if_neg he, if_pos (by omega), if_pos (by rw [ByteArray.size_append, mk_size]; simp; omega)]
      conv => lhs; rw [← mk_dl v.2.2.2, mk_append, mk_append]
      simp
  · rw [if_neg h, if_neg h]; rfl
theorem pParse_eq (k : Nat) (s : ByteArray) (hs : s.size ≤ 2147483640) (hk : s.size + 20 < k) : version_Parse.f k s = some (flat5 (parseP (dl s))) := by
  unfold version_Parse.f
  rw [scut_eq s (by omega), cutB_eq]
  simp only [Option.bind_some]
  change ((strings_Split.f k (mk (cutL 45 (dl s)).1) ⟨#[46]⟩).bind fun l => if l.length = 3 then (if ((cutL 45 (dl s)).2.2 && (mk (cutL 45 (dl s)).2.1).toList.isEmpty) = true then _ else version_Parse.go k (mk (cutL 45 (dl s)).2.1) l 0 0 0 0) else _) = _
  have hlen := cutL_len 45 (dl s)
  rw [dl_len] at hlen
  rw [split_eq k _ (by rw [mk_size]; omega) (by rw [mk_size]; omega), dl_mk, mk_toList]
  simp only [Option.bind_some, List.length_map]
  unfold parseP
  revert hlen
  generalize cutL 45 (dl s) = C
  obtain ⟨front, pre, more⟩ := C
  intro hlen
  simp only at hlen ⊢
  have hle := cuts_le 46 front
  rcases parse3_cases more pre (cuts 46 front) with ⟨a, b, d, hcc⟩ | ⟨hn, hz⟩
  · rw [hcc] at hle ⊢
    have ha := hle a (by simp)
    have hb := hle b (by simp)
    have hd := hle d (by simp)
    rw [if_pos (show ([a, b, d] : List (List UInt8)).length = 3 from rfl), parse3_three]
    cases hm : (more && pre.isEmpty) with
    | true => simp [flat5, zeroV, e0]
    | false =>
      rw [if_neg (by decide)]
      simp only [List.map_cons, List.map_nil, version_Parse.go]
      rw [number_eq (mk a) (by rw [mk_size]; omega), number_eq (mk b) (by rw [mk_size]; omega), number_eq (mk d) (by rw [mk_size]; omega)]
      simp only [Option.bind_some, dl_mk]
      cases oa : okB a with
      | false => simp [flat5, zeroV, e0]
      | true =>
        cases ob : okB b with
        | false => simp [flat5, zeroV, e0]
        | true =>
          cases od : okB d with
          | false => simp [flat5, zeroV, e0]
          | true =>
            have na := okB_num oa
            have nb := okB_num ob
            have nd := okB_num od
            have hr : rightB ((numV a : Int), (numV b : Int), (numV d : Int), mk pre) = preB pre := by
              unfold rightB
              simp only [dl_mk]
              rw [mayN_iff.2 (by omega), mayN_iff.2 (by omega), mayN_iff.2 (by omega)]
              simp
            have hre := right_eq k ((numV a : Int), (numV b : Int), (numV d : Int), mk pre) (by simp only [mk_size]; omega) (by simp only [mk_size]; omega)
            rw [hr] at hre
            simp only at hre
            simp only [Bool.true_eq_false, if_false, if_true, Nat.zero_add, Nat.reduceAdd, Nat.succ_ne_zero, Nat.reduceEqDiff, na.2.2, nb.2.2, nd.2.2]
            rw [hre]
            simp only [Option.bind_some]
            cases preB pre <;> simp [flat5, zeroV, e0]
  · rw [hz, if_neg hn]
    simp [flat5, zeroV, e0]
theorem cmpInt_eq (a b : Int) : cmp_Compare_int.f a b = some (cmpI a b) := by
  unfold cmp_Compare_int.f cmp_isNaN_int.f cmpI
  simp only [bne_self_eq_false, Option.bind_some, Bool.false_eq_true, if_false]
  by_cases h : a < b
  · rw [if_pos h, if_pos h]
  · rw [if_neg h, if_neg h]
    by_cases h2 : a > b
    · rw [if_pos h2, if_pos h2]
    · rw [if_neg h2, if_neg h2]
theorem cmpStr_eq (a b : ByteArray) : cmp_Compare_string.f a b = some (cmpB (dl a) (dl b)) := by
  unfold cmp_Compare_string.f cmp_isNaN_string.f
  simp only [bne_self_eq_false, Option.bind_some, Bool.false_eq_true, if_false, toList_eq]
  exact cmpB_less (dl a) (dl b)
theorem parts_eq (k : Nat) (x y : ByteArray) (hx : x.size ≤ 2147483647) (hy : y.size ≤ 2147483647) (ox : Okp (dl x)) (oy : Okp (dl y)) (hk : 1 ≤ k) : version_parts.f k x y = some (partsC (dl x) (dl y)) := by
  unfold version_parts.f
  rw [number_eq x (by omega), number_eq y (by omega)]
  simp only [Option.bind_some]
  obtain ⟨k, rfl, hk'⟩ := pred (show 0 < k by omega)
  simp only [version_parts.j0]
  rw [cmpInt_eq, cmpStr_eq]
  unfold partsC
  cases hpx : plainB (dl x) with
  | true =>
    cases hpy : plainB (dl y) with
    | true =>
      rw [(okB_num (ox hpx)).2.2, (okB_num (oy hpy)).2.2]
      simp
    | false => simp
  | false =>
    cases hpy : plainB (dl y) with
    | true => simp
    | false => simp
theorem rows_loop (A B : List ByteArray) (hA : A.length ≤ 2147483647) (hB : B.length ≤ 2147483647) : ∀ (ra rb : List ByteArray) (k : Nat) (i : Int), Lt A i ra → Lt B i rb → (∀ x ∈ ra, Okp (dl x) ∧ x.size ≤ 2147483647) → (∀ x ∈ rb, Okp (dl x) ∧ x.size ≤ 2147483647) → ra.length + 1 < k →
    version_rows_string.l0 k A B (mn A.length B.length) i = some (rowsL partsC (ra.map dl) (rb.map dl))
  | [], rb, k, i, hra, hrb, _, _, hk => by
    obtain ⟨k, rfl, hk'⟩ := pred hk
    have la := hra.length
    have lb := hrb.length
    have hmn : ¬ i < mn (A.length : Int) B.length := by unfold mn; simp at la; split <;> omega
    simp only [version_rows_string.l0]
    rw [if_neg hmn, cmpInt_eq]
    simp only [Option.bind_some]
    cases rb with
    | nil => simp at la lb; simp [rowsL, cmpI]; omega
    | cons y t =>
      simp at la lb
      simp only [List.map_nil, List.map_cons, rowsL]
      unfold cmpI
      rw [if_pos (by omega)]
  | x :: ra, [], k, i, hra, hrb, _, _, hk => by
    obtain ⟨k, rfl, hk'⟩ := pred hk
    have la := hra.length
    have lb := hrb.length
    simp at la lb
    have hmn : ¬ i < mn (A.length : Int) B.length := by unfold mn; split <;> omega
    simp only [version_rows_string.l0]
    rw [if_neg hmn, cmpInt_eq]
    simp only [Option.bind_some, List.map_nil, List.map_cons, rowsL]
    unfold cmpI
    rw [if_neg (by omega), if_pos (by omega)]
  | x :: ra, y :: rb, k, i, hra, hrb, ha, hb, hk => by
    rw [List.length_cons] at hk
    obtain ⟨k, rfl, hk'⟩ := pred hk
    have hx := ha x List.mem_cons_self
    have hy := hb y List.mem_cons_self
    have l1 := hra.lt
    have l2 := hrb.lt
    have hmn : i < mn (A.length : Int) B.length := by unfold mn; split <;> omega
    simp only [version_rows_string.l0]
    rw [if_pos hmn, if_pos hra.ge, if_pos hra.lt, if_pos hrb.lt, hra.rd, hrb.rd, parts_eq k x y hx.2 hy.2 hx.1 hy.1 (by omega), hra.wrap (by omega)]
    simp only [Option.bind_some, List.map_cons, rowsL]
    by_cases h0 : partsC (dl x) (dl y) = 0
    · rw [if_pos h0, if_pos h0]
      exact rows_loop A B hA hB ra rb k (i + 1) hra.next hrb.next (fun z hz => ha z (List.mem_cons_of_mem _ hz)) (fun z hz => hb z (List.mem_cons_of_mem _ hz)) (by omega)
    · rw [if_neg h0, if_neg h0]
theorem or3_eq (k : Nat) (a b c : Int) (hk : 5 < k) : cmp_Or_int.f k [a, b, c] = some (if a = 0 then (if b = 0 then c else b) else a) := by
  obtain ⟨k, rfl, _⟩ := pred (show 4 < k by omega)
  obtain ⟨k, rfl, _⟩ := pred (show 3 < k by omega)
  obtain ⟨k, rfl, _⟩ := pred (show 2 < k by omega)
  obtain ⟨k, rfl, _⟩ := pred (show 1 < k by omega)
  have r0 : rd [a, b, c] 0 = a := rfl
  have r1 : rd [a, b, c] 1 = b := rfl
  have r2 : rd [a, b, c] 2 = c := rfl
  have w1 : wrap64 (0 + 1) = 1 := by unfold wrap64; omega
  have w2 : wrap64 (1 + 1) = 2 := by unfold wrap64; omega
  have w3 : wrap64 (2 + 1) = 3 := by unfold wrap64; omega
  have hl : (([a, b, c] : List Int).length : Int) = 3 := rfl
  unfold cmp_Or_int.f
  simp only [cmp_Or_int.l0, hl, r0, w1, r1, w2, r2, w3]
  by_cases ha : a = 0 <;> by_cases hb : b = 0 <;> by_cases hc : c = 0 <;> simp [ha, hb, hc]
theorem pCompare_eq (k : Nat) (v w : Ver) (hv : v.2.2.2.size ≤ 1000000) (hw : w.2.2.2.size ≤ 1000000) (hk : 10000000 < k) : version_Compare.f k v.1 v.2.1 v.2.2.1 v.2.2.2 w.1 w.2.1 w.2.2.1 w.2.2.2 = some (cmpT v w) := by
  unfold version_Compare.f cmpT
  rw [right_eq k v (by omega) (by omega), right_eq k w (by omega) (by omega)]
  simp only [Option.bind_some]
  obtain ⟨k, rfl, hk'⟩ := pred hk
  simp only [version_Compare.j0]
  cases hrv : rightB v with
  | false => simp
  | true =>
    cases hrw : rightB w with
    | false => simp
    | true =>
      obtain ⟨_, _, _, pv⟩ := right_nums hrv
      obtain ⟨_, _, _, pw⟩ := right_nums hrw
      rw [cmpInt_eq, cmpInt_eq, cmpInt_eq]
      simp only [Bool.not_true, Bool.false_eq_true, if_false, if_true, and_self, Option.bind_some]
      rw [or3_eq k _ _ _ (by omega)]
      simp only [Option.bind_some]
      obtain ⟨k, rfl, hk'⟩ := pred (show 9999990 < k by omega)
      have hend : ∀ b : Bool, version_Compare.j1 (k + 1) 0 b v.1 v.2.1 v.2.2.1 v.2.2.2 w.1 w.2.1 w.2.2.1 w.2.2.2 = some (if b = true then 0 else if dl v.2.2.2 = [] then 1 else if dl w.2.2.2 = [] then -1 else rowsL partsC (cuts 46 (dl v.2.2.2)) (cuts 46 (dl w.2.2.2))) := by
        intro b
        simp only [version_Compare.j1, toList_eq]
        change (if b = true then _ else if dl v.2.2.2 = [] then _ else if dl w.2.2.2 = [] then _ else _) = _
        cases b with
        | true => simp
        | false =>
          simp only [Bool.false_eq_true, if_false]
          have lv := dl_len v.2.2.2
          have lw := dl_len w.2.2.2
          by_cases ea : dl v.2.2.2 = []
          · rw [if_pos ea, if_pos ea]
          · rw [if_neg ea, if_neg ea]
            by_cases eb : dl w.2.2.2 = []
            · rw [if_pos eb, if_pos eb]
            · have n1 := cuts_len 46 (dl v.2.2.2)
              have n2 := cuts_len 46 (dl w.2.2.2)
              rw [if_neg eb, if_neg eb, split_eq k _ (by omega) (by omega), split_eq k _ (by omega) (by omega)]
              simp only [Option.bind_some]
              unfold version_rows_string.f
              rw [rows_loop _ _ (by rw [List.length_map]; omega) (by rw [List.length_map]; omega) _ _ k 0 (Lt.zero _) (Lt.zero _)
                  (fun x hx => by
                    obtain ⟨y, hy, rfl⟩ := List.mem_map.1 hx
                    have := cuts_le 46 _ y hy
                    exact ⟨preB_parts pv ea y hy, by rw [mk_size]; omega⟩)
                  (fun x hx => by
                    obtain ⟨y, hy, rfl⟩ := List.mem_map.1 hx
                    have := cuts_le 46 _ y hy
                    exact ⟨preB_parts pw eb y hy, by rw [mk_size]; omega⟩) (by rw [List.length_map]; omega), map_dl_mk, map_dl_mk]
              rfl
      unfold cmpV cmpP
      by_cases h1 : cmpI v.1 w.1 = 0
      · rw [if_pos h1, if_pos h1]
        by_cases h2 : cmpI v.2.1 w.2.1 = 0
        · rw [if_pos h2, if_pos h2]
          by_cases h3 : cmpI v.2.2.1 w.2.2.1 = 0
          · rw [if_pos h3, if_pos h3, h3, hend, toList_eq, toList_eq]
            congr 1
            change (if (dl v.2.2.2 == dl w.2.2.2) = true then _ else _) = _
            by_cases eab : dl v.2.2.2 = dl w.2.2.2
            · rw [if_pos (by simpa using eab), if_pos eab]
            · rw [if_neg (by simpa using eab), if_neg eab]
          · rw [if_neg h3, if_neg h3]
            simp [version_Compare.j1]
        · rw [if_neg h2, if_neg h2, if_neg h2]
          simp [version_Compare.j1]
      · rw [if_neg h1, if_neg h1, if_neg h1]
        simp [version_Compare.j1]
end Go.Proofs.YtijooffpjfhidaaGreatDoor.Vp
end
section
namespace Go.Proofs.YtijooffpjfhidaaGreatDoor.G
open Go.RowKit Go.Proofs.YtijooffpjfhidaaGreatDoorW.PrintWords Go.Proofs.YtijooffpjfhidaaGreatDoorW.PrintLast Go.Proofs.YtijooffpjfhidaaGreatDoorW.PrintMore
attribute [local go_sem] Go.Proofs.YtijooffpjfhidaaGreatDoor.Aid.gtr_string max2_int min2_int max_two min_two max_three min_three max_four min_four
set_option linter.unusedVariables false
set_option linter.unusedSimpArgs false
theorem eqA35 (d : Nat) (w : World) (x0 y0 : Int) (x1 y1 : Int) (x2 y2 : Int) (x3 y3 : ByteArray) :
    (Op.equalIn (d + 2) 35 (.agg #[.int .i64 x0, .int .i64 x1, .int .i64 x2, .string x3]) (.agg #[.int .i64 y0, .int .i64 y1, .int .i64 y2, .string y3])).run Tryz.prog w = .ok (x0 == y0 && (x1 == y1 && (x2 == y2 && (x3.toList == y3.toList)))) w := by
  refine eqA_of Tryz.underlying35 (by kernel_rfl) ?_
  refine eqf_cons (by rfl) (by go_simp; rfl) (by go_simp; rfl) (by go_simp) ?_
  refine eqf_cons (by rfl) (by go_simp; rfl) (by go_simp; rfl) (by go_simp) ?_
  refine eqf_cons (by rfl) (by go_simp; rfl) (by go_simp; rfl) (by go_simp) ?_
  exact eqf_last (by rfl) (by go_simp; rfl) (by go_simp; rfl) (by go_simp)
theorem eqA45 (d : Nat) (w : World) (x0 y0 : Int) (x1 y1 : Int) (x2 y2 : Int) (x3 y3 : Int) (x4 y4 : ByteArray) :
    (Op.equalIn (d + 3) 45 (.agg #[.int .i64 x0, .int .i64 x1, .int .i64 x2, .int .i64 x3, .string x4]) (.agg #[.int .i64 y0, .int .i64 y1, .int .i64 y2, .int .i64 y3, .string y4])).run Tryz.prog w = .ok (x0 == y0 && ((x1 == y1 && (x2 == y2 && (x3 == y3 && (x4.toList == y4.toList)))))) w := by
  refine eqA_of Tryz.underlying45 (by kernel_rfl) ?_
  refine eqf_cons (by rfl) (by go_simp; rfl) (by go_simp; rfl) (by go_simp) ?_
  exact eqf_last (by rfl) (by go_simp) (by go_simp) (eqA35 (d + 0) w _ _ _ _ _ _ _ _)
end Go.Proofs.YtijooffpjfhidaaGreatDoor.G
end
section
namespace Go.Proofs.YtijooffpjfhidaaGreatDoor.Vp
open Go Go.RowKit Go.Proofs.YtijooffpjfhidaaGreatDoorW.PrintWords Go.Proofs.YtijooffpjfhidaaGreatDoor.Txt Go.Proofs.YtijooffpjfhidaaGreatDoor.Trim Go.Proofs.YtijooffpjfhidaaGreatDoor.Num Go.Proofs.YtijooffpjfhidaaGreatDoor.Seq Go.Proofs.YtijooffpjfhidaaGreatDoor.G
def holdsB (b : Bd) (v : Ver) : Bool :=
  if b.1 = 1 then cmpT v b.2 == 0 else if b.1 = 2 then decide (cmpT v b.2 < 0) else if b.1 = 3 then decide (cmpT v b.2 ≤ 0) else if b.1 = 4 then decide (cmpT v b.2 > 0) else decide (cmpT v b.2 ≥ 0)
def nearB (b : Bd) (v : Ver) : Bool := !(dl b.2.2.2.2).isEmpty && (decide (b.2.1 = v.1) && decide (b.2.2.1 = v.2.1) && decide (b.2.2.2.1 = v.2.2.1))
def letsA (l : List Bd) (v : Ver) : Bool := (l.all fun b => holdsB b v) && ((dl v.2.2.2).isEmpty || l.any fun b => nearB b v)
def holdsR (r : Ran) (v : Ver) : Bool := rightR r && rightB v && r.any fun l => letsA l v
def toV (x : S35) : Ver := (x.f0, x.f1, x.f2, x.f3)
def toB (b : S45) : Bd := (b.f0, toV b.f1)
def toA (l : List S45) : List Bd := l.map toB
def toR (r : List (List S45)) : Ran := r.map toA
def SzA (n : Nat) (l : List S45) : Prop := ∀ b ∈ l, b.f1.f3.size ≤ n
def SzR (n : Nat) (r : List (List S45)) : Prop := ∀ l ∈ r, SzA n l
end Go.Proofs.YtijooffpjfhidaaGreatDoor.Vp
end
section
namespace Go.Proofs.YtijooffpjfhidaaGreatDoor.Vp
open Go Go.RowKit Go.Proofs.YtijooffpjfhidaaGreatDoorW.PrintWords Go.Proofs.YtijooffpjfhidaaGreatDoor.Txt Go.Proofs.YtijooffpjfhidaaGreatDoor.Trim Go.Proofs.YtijooffpjfhidaaGreatDoor.Num Go.Proofs.YtijooffpjfhidaaGreatDoor.Seq Go.Proofs.YtijooffpjfhidaaGreatDoor.G
def boundOk (b : Bd) : Bool := decide (1 ≤ b.1 ∧ b.1 ≤ 5) && rightB b.2
theorem rightA_def (l : List Bd) : rightA l = (decide (l.length ≤ 8) && l.all boundOk) := rfl
theorem toA_cons (b : S45) (l : List S45) : toA (b :: l) = toB b :: toA l := rfl
theorem toR_cons (b : List S45) (l : List (List S45)) : toR (b :: l) = toA b :: toR l := rfl
theorem toA_len (l : List S45) : (toA l).length = l.length := List.length_map _
theorem toR_len (l : List (List S45)) : (toR l).length = l.length := List.length_map _
def tailA : List Bd → List UInt8
  | [] => []
  | b :: l => 32 :: wordB b ++ tailA l
def bodyA : List Bd → List UInt8
  | [] => []
  | b :: l => wordB b ++ tailA l
theorem joinC_body : ∀ l : List Bd, joinC 32 (l.map wordB) = bodyA l
  | [] => rfl
  | [b] => by simp [joinC, bodyA, tailA]
  | b :: c :: l => by
    have ih := joinC_body (c :: l)
    rw [List.map_cons, joinC_cons 32 _ (by simp), ih]
    simp [bodyA, tailA]
theorem wordA_body (l : List Bd) : wordA l = if l = [] then [42] else bodyA l := by unfold wordA; rw [joinC_body]
def tailD : List (List Bd) → List UInt8
  | [] => []
  | l :: r => 32 :: 124 :: 124 :: 32 :: wordA l ++ tailD r
theorem joinD_tail : ∀ (l : List Bd) (r : List (List Bd)), joinD ((l :: r).map wordA) = wordA l ++ tailD r
  | l, [] => by simp [joinD, tailD]
  | l, m :: r => by
    have ih := joinD_tail m r
    rw [List.map_cons, joinD_cons _ (by simp), ih]
    simp [tailD]
def lenA (l : List S45) : Nat := (l.map fun b => 30 + b.f1.f3.size).sum
def lenR (r : List (List S45)) : Nat := (r.map fun l => 10 + lenA l).sum
theorem wordB_len {b : S45} (h : boundOk (toB b) = true) : (wordB (toB b)).length ≤ 25 + b.f1.f3.size := by
  unfold boundOk at h
  rw [Bool.and_eq_true] at h
  have ht := told_len h.2
  have h3 : (toB b).2.2.2.2.size = b.f1.f3.size := rfl
  rw [h3] at ht
  have hs : (sgn (toB b).1).length ≤ 2 := by unfold sgn; (repeat' split) <;> simp
  unfold wordB
  rw [List.length_append]; omega
end Go.Proofs.YtijooffpjfhidaaGreatDoor.Vp
end
section
namespace Go.Proofs.YtijooffpjfhidaaGreatDoor.Vp
open Go Go.RowKit Go.Proofs.YtijooffpjfhidaaGreatDoorW.PrintWords Go.Proofs.YtijooffpjfhidaaGreatDoor.Txt Go.Proofs.YtijooffpjfhidaaGreatDoor.Trim Go.Proofs.YtijooffpjfhidaaGreatDoor.Num Go.Proofs.YtijooffpjfhidaaGreatDoor.Seq Go.Proofs.YtijooffpjfhidaaGreatDoor.G
def ofV (v : Ver) : S35 := ⟨v.1, v.2.1, v.2.2.1, v.2.2.2⟩
def ofB (b : Bd) : S45 := ⟨b.1, ofV b.2⟩
def ofA (l : List Bd) : List S45 := l.map ofB
def ofR (r : Ran) : List (List S45) := r.map ofA
theorem toA_ofA : ∀ l, toA (ofA l) = l
  | [] => rfl
  | b :: l => by show toB (ofB b) :: toA (ofA l) = _; rw [toA_ofA l]; rfl
theorem toR_ofR : ∀ r, toR (ofR r) = r
  | [] => rfl
  | l :: r => by show toA (ofA l) :: toR (ofR r) = _; rw [toR_ofR r, toA_ofA l]
theorem ofA_app (a b : List Bd) : ofA (a ++ b) = ofA a ++ ofA b := List.map_append
theorem ofA_len (l : List Bd) : (ofA l).length = l.length := List.length_map _
def opI (l : List UInt8) : Int := if [60, 61].isPrefixOf l = true then 3 else if [62, 61].isPrefixOf l = true then 5 else if [60].isPrefixOf l = true then 2 else if [62].isPrefixOf l = true then 4 else if [61].isPrefixOf l = true then 1 else 0
theorem pre_take (u l : List UInt8) : u.isPrefixOf l = true ↔ u.length ≤ l.length ∧ l.take u.length = u := by
  rw [List.isPrefixOf_iff_prefix]
  constructor
  · rintro ⟨t, rfl⟩
    exact ⟨by simp, List.take_left⟩
  · rintro ⟨_, h⟩
    exact ⟨l.drop u.length, by conv => lhs; lhs; rw [← h]
                               exact List.take_append_drop _ _⟩
theorem opW_opI (l : List UInt8) : opW l = if opI l > 0 then (opI l, l.drop (sgn (opI l)).length) else (1, l) := by
  have p1 : ∀ (c : UInt8) (r : List UInt8) (a : UInt8), ([a] : List UInt8).isPrefixOf (c :: r) = decide (c = a) := fun c r a => by
    simp only [List.isPrefixOf, Bool.and_true]
    by_cases h : c = a
    · subst h; simp
    · rw [decide_eq_false h]; exact beq_eq_false_iff_ne.2 (fun e => h e.symm)
  have p2 : ∀ (c : UInt8) (r : List UInt8) (a b : UInt8), ([a, b] : List UInt8).isPrefixOf (c :: r) = (decide (c = a) && decide (r.head? = some b)) := fun c r a b => by
    have e1 : (a == c) = decide (c = a) := by
      by_cases h : c = a
      · subst h; simp
      · rw [decide_eq_false h]; exact beq_eq_false_iff_ne.2 (fun e => h e.symm)
    cases r with
    | nil => simp [List.isPrefixOf]
    | cons d r =>
      simp only [List.isPrefixOf, Bool.and_true, e1, List.head?_cons, Option.some.injEq]
      congr 1
      by_cases h : d = b
      · subst h; simp
      · rw [decide_eq_false h]; exact beq_eq_false_iff_ne.2 (fun e => h e.symm)
  cases l with
  | nil => rfl
  | cons c r =>
    unfold opI opW
    simp only [p1, p2]
    by_cases c60 : c = 60
    · subst c60
      by_cases hr : r.head? = some 61
      · simp [hr, sgn]
      · simp [hr, sgn]
    · by_cases c62 : c = 62
      · subst c62
        by_cases hr : r.head? = some 61
        · simp [hr, sgn]
        · simp [hr, sgn]
      · by_cases c61 : c = 61
        · subst c61; simp [sgn]
        · simp [c60, c62, c61]
theorem parse_sz (l : List UInt8) : (parseP l).1.2.2.2.size ≤ l.length := by
  cases h : parseP l with
  | mk v t =>
    cases t with
    | true =>
      have hr := parse_right h
      have hl := congrArg List.length hr.2
      have hd := dl_len v.2.2.2
      unfold told at hl
      show v.2.2.2.size ≤ _
      by_cases he : dl v.2.2.2 = []
      · rw [he] at hd; simp at hd; omega
      · rw [if_neg he] at hl; simp at hl; omega
    | false =>
      have := parse_none h
      subst this
      show zeroV.2.2.2.size ≤ _
      have : zeroV.2.2.2.size = 0 := by decide
      omega
theorem parse_rng (l : List UInt8) : (0 ≤ (parseP l).1.1 ∧ (parseP l).1.1 ≤ 999999) ∧ (0 ≤ (parseP l).1.2.1 ∧ (parseP l).1.2.1 ≤ 999999) ∧ (0 ≤ (parseP l).1.2.2.1 ∧ (parseP l).1.2.2.1 ≤ 999999) := by
  cases h : parseP l with
  | mk v t =>
    cases t with
    | true =>
      have hr := right_nums (parse_right h).1
      exact ⟨hr.1, hr.2.1, hr.2.2.1⟩
    | false =>
      have := parse_none h
      subst this
      decide
theorem next_pre (v : Ver) (t : Bool) : (nextV v t).2.2.2.size = 0 := by
  unfold nextV
  (repeat' split) <;> rfl
def twoP (r : List UInt8) (t : Bool) : List Bd × Bool := ([(5, (parseP r).1), (2, nextV (parseP r).1 t)], (parseP r).2 && rightB (nextV (parseP r).1 t))
def oneP : List UInt8 → List Bd × Bool
  | [] => ([], true)
  | c :: r => if c = 42 ∧ r = [] then ([], true) else if c = 94 ∨ c = 126 then twoP r (decide (c = 126)) else ([((opW (c :: r)).1, (parseP (opW (c :: r)).2).1)], (parseP (opW (c :: r)).2).2)
theorem opW_len (l : List UInt8) : (opW l).2.length ≤ l.length := by
  rw [opW_opI]
  split
  · rw [List.length_drop]; omega
  · exact Nat.le_refl _
end Go.Proofs.YtijooffpjfhidaaGreatDoor.Vp
end
section
namespace Go.Proofs.YtijooffpjfhidaaGreatDoor.Vp
open Go Go.RowKit Go.Proofs.YtijooffpjfhidaaGreatDoorW.PrintWords Go.Proofs.YtijooffpjfhidaaGreatDoor.Txt Go.Proofs.YtijooffpjfhidaaGreatDoor.Trim Go.Proofs.YtijooffpjfhidaaGreatDoor.Num Go.Proofs.YtijooffpjfhidaaGreatDoor.Seq Go.Proofs.YtijooffpjfhidaaGreatDoor.G
theorem one_word (w : List UInt8) : match wordP w with
    | none => (oneP w).2 = false
    | some a => oneP w = (a, true) ∨ ((oneP w).2 = false ∧ a.all boundOk = false) := by
  cases w with
  | nil => exact .inl rfl
  | cons c r =>
    simp only [wordP, oneP]
    by_cases h1 : c = 42 ∧ r = []
    · rw [if_pos h1, if_pos h1]; exact .inl rfl
    · rw [if_neg h1, if_neg h1]
      by_cases h2 : c = 94 ∨ c = 126
      · rw [if_pos h2, if_pos h2]
        by_cases h3 : (parseP r).2 = true
        · rw [if_pos h3]
          show twoP r _ = _ ∨ _
          unfold twoP
          rw [h3, Bool.true_and]
          by_cases h4 : rightB (nextV (parseP r).1 (decide (c = 126))) = true
          · rw [h4]; exact .inl rfl
          · rw [Bool.not_eq_true] at h4
            refine .inr ⟨h4, ?_⟩
            simp [boundOk, h4]
        · rw [if_neg h3]
          show (twoP r _).2 = false
          unfold twoP
          rw [Bool.not_eq_true] at h3
          rw [h3]; rfl
      · rw [if_neg h2, if_neg h2]
        by_cases h3 : (parseP (opW (c :: r)).2).2 = true
        · rw [if_pos h3, h3]; exact .inl rfl
        · rw [if_neg h3]
          rwa [Bool.not_eq_true] at h3
def SzP (n : Nat) (l : List Bd) : Prop := ∀ b ∈ l, b.2.2.2.2.size ≤ n
theorem oneP_sz (w : List UInt8) : SzP w.length (oneP w).1 ∧ (oneP w).1.length ≤ 2 := by
  cases w with
  | nil => exact ⟨fun b hb => by simp [oneP] at hb, by simp [oneP]⟩
  | cons c r =>
    simp only [oneP]
    split
    · exact ⟨fun b hb => by simp at hb, by simp⟩
    · split
      · refine ⟨fun b hb => ?_, by simp [twoP]⟩
        simp only [twoP, List.mem_cons, List.not_mem_nil, or_false] at hb
        have := parse_sz r
        rcases hb with rfl | rfl
        · show (parseP r).1.2.2.2.size ≤ _; simp; omega
        · have := next_pre (parseP r).1 (decide (c = 126)); simp only at this ⊢; omega
      · refine ⟨fun b hb => ?_, by simp⟩
        simp only [List.mem_singleton] at hb
        subst hb
        have h1 := parse_sz (opW (c :: r)).2
        have h2 := opW_len (c :: r)
        show (parseP (opW (c :: r)).2).1.2.2.2.size ≤ _; omega
theorem szA_ofA {n : Nat} {l : List Bd} (h : SzP n l) : SzA n (ofA l) := fun b hb => by
  obtain ⟨c, hc, rfl⟩ := List.mem_map.1 hb
  exact h c hc
def finS (o : Option (List (List S45))) : List (List S45) × Bool :=
  match o with
  | some r => if rightR (toR r) = true then (r, true) else ([], false)
  | none => ([], false)
theorem words_len (l : List UInt8) : (words l).length ≤ l.length + 1 := Nat.le_trans (List.length_filter_le _ _) (cuts_len 32 l)
theorem words_mem {l w : List UInt8} (h : w ∈ words l) : w ≠ [] ∧ w.length ≤ l.length := by
  unfold words at h
  rw [List.mem_filter] at h
  refine ⟨fun e => ?_, cuts_le 32 l w h.1⟩
  have := h.2
  rw [e] at this; simp at this
theorem finS_finR (o : Option Ran) : finS (o.bind fun r => some ([] ++ ofR r)) = (ofR (finR o).1, (finR o).2) := by
  cases o with
  | none => rfl
  | some r =>
    simp only [Option.bind_some, finS, finR, List.nil_append, toR_ofR]
    split <;> rfl
theorem cutp_eq (s : ByteArray) (u : List UInt8) (hu : u.length ≤ 100) (hs : s.size ≤ 2147483647) : strings_CutPrefix.f s (mk u) = some (if u.isPrefixOf (dl s) = true then (mk ((dl s).drop u.length), true) else (s, false)) := by
  have hd := dl_len s
  have hz := mk_size u
  have hp := pre_take u (dl s)
  unfold strings_CutPrefix.f stringslite_CutPrefix.f stringslite_HasPrefix.f
  have hx : s.extract u.length s.size = mk ((dl s).drop u.length) := by
    apply ext
    rw [extract_list]
    change ((dl s).take s.size).drop _ = _
    rw [List.take_of_length_le (by omega)]; rfl
  by_cases h1 : (s.size : Int) ≥ ((mk u).size : Int)
  · rw [if_pos h1, if_pos (by omega), if_pos (by omega), toList_eq, extract_list, mk_toList, Int.toNat_natCast, List.drop_zero, hz]
    change ((some (List.take u.length (dl s) == u)).bind _).bind _ = _
    by_cases h2 : (dl s).take u.length = u
    · rw [if_pos (hp.2 ⟨by omega, h2⟩)]
      have e : (List.take u.length (dl s) == u) = true := beq_iff_eq.2 h2
      rw [e]
      simp only [Option.bind_some, if_true]
      rw [if_pos (by omega), if_pos (by omega), hx]; rfl
    · rw [if_neg (fun e => h2 (hp.1 e).2)]
      have e : (List.take u.length (dl s) == u) = false := beq_eq_false_iff_ne.2 h2
      rw [e]; rfl
  · rw [if_neg h1]
    have : u.isPrefixOf (dl s) = false := by rw [← Bool.not_eq_true]; exact fun e => h1 (by have := (hp.1 e).1; omega)
    rw [this]; rfl
theorem hasp_eq (s : ByteArray) (hs : s.size ≤ 2147483647) : strings_HasPrefix.f s ⟨#[126]⟩ = some ([126].isPrefixOf (dl s)) := by
  have hd := dl_len s
  have hp := pre_take [126] (dl s)
  have e1 : (⟨#[126]⟩ : ByteArray) = mk [126] := rfl
  have hz : (mk [126]).size = 1 := rfl
  unfold strings_HasPrefix.f stringslite_HasPrefix.f
  rw [e1]
  by_cases h1 : (s.size : Int) ≥ ((mk [126]).size : Int)
  · rw [if_pos h1, if_pos (by omega), if_pos (by omega), toList_eq, extract_list, mk_toList, Int.toNat_natCast, List.drop_zero, hz]
    change (some (List.take 1 (dl s) == [126])).bind _ = _
    by_cases h2 : (dl s).take 1 = [126]
    · have e : (List.take 1 (dl s) == [126]) = true := beq_iff_eq.2 h2
      rw [e, hp.2 ⟨by simp; omega, h2⟩]; rfl
    · have e : (List.take 1 (dl s) == [126]) = false := beq_eq_false_iff_ne.2 h2
      have : [126].isPrefixOf (dl s) = false := by rw [← Bool.not_eq_true]; exact fun e => h2 (hp.1 e).2
      rw [e, this]; rfl
  · rw [if_neg h1]
    have : [126].isPrefixOf (dl s) = false := by rw [← Bool.not_eq_true]; exact fun e => h1 (by have := (hp.1 e).1; simp at this; omega)
    rw [this]; rfl
def sgL : List (Int × List UInt8) := [(3, [60, 61]), (5, [62, 61]), (2, [60]), (4, [62]), (1, [61])]
theorem signs_sgL : span_Print.signs = sgL.map fun x => (x.1, mk x.2) := rfl
theorem sg_off (s : ByteArray) (hs : s.size ≤ 2147483647) (op : Int) (rest : ByteArray) (hr : rest ≠ s) : ∀ l : List (Int × List UInt8), (∀ x ∈ l, x.2.length ≤ 100) → span_Parse.sg s (l.map fun x => (x.1, mk x.2)) op rest = some (op, rest)
  | [], _ => rfl
  | x :: l, h => by
    rw [List.map_cons, span_Parse.sg, cutp_eq s x.2 (h x List.mem_cons_self) hs]
    have ih := sg_off s hs op rest hr l (fun y hy => h y (List.mem_cons_of_mem _ hy))
    simp only [Option.bind_some, ih, if_neg hr]
    simp
theorem sg_on (s : ByteArray) (hs : s.size ≤ 2147483647) (x : Int × List UInt8) (l : List (Int × List UInt8)) (h : ∀ y ∈ x :: l, y.2.length ≤ 100 ∧ y.2 ≠ []) (op : Int) :
    span_Parse.sg s ((x :: l).map fun x => (x.1, mk x.2)) op s = if x.2.isPrefixOf (dl s) = true then some (x.1, mk ((dl s).drop x.2.length)) else span_Parse.sg s (l.map fun x => (x.1, mk x.2)) op s := by
  rw [List.map_cons, span_Parse.sg, cutp_eq s x.2 (h x List.mem_cons_self).1 hs]
  by_cases hp : x.2.isPrefixOf (dl s) = true
  · rw [if_pos hp, if_pos hp]
    simp only [Option.bind_some, if_true]
    have hne : mk ((dl s).drop x.2.length) ≠ s := fun e => by
      have h1 := congrArg ByteArray.size e
      rw [mk_size, List.length_drop, dl_len] at h1
      have h2 := ((pre_take _ _).1 hp).1
      rw [dl_len] at h2
      have h3 : 0 < x.2.length := List.length_pos_iff.2 (h x List.mem_cons_self).2
      omega
    rw [sg_off s hs _ _ hne l (fun y hy => (h y (List.mem_cons_of_mem _ hy)).1)]
  · rw [if_neg hp, if_neg hp]
    simp
theorem sg_eq (s : ByteArray) (hs : s.size ≤ 2147483647) : span_Parse.sg s span_Print.signs 1 s = some ((opW (dl s)).1, mk (opW (dl s)).2) := by
  have H : ∀ y ∈ sgL, y.2.length ≤ 100 ∧ y.2 ≠ [] := by decide
  rw [signs_sgL]
  unfold sgL at H ⊢
  rw [sg_on s hs _ _ H, sg_on s hs _ _ (fun y hy => H y (List.mem_cons_of_mem _ hy)), sg_on s hs _ _ (fun y hy => H y (List.mem_cons_of_mem _ (List.mem_cons_of_mem _ hy))), sg_on s hs _ _ (fun y hy => H y (List.mem_cons_of_mem _ (List.mem_cons_of_mem _ (List.mem_cons_of_mem _ hy)))),
    sg_on s hs _ _ (fun y hy => H y (List.mem_cons_of_mem _ (List.mem_cons_of_mem _ (List.mem_cons_of_mem _ (List.mem_cons_of_mem _ hy)))))]
  rw [opW_opI]
  unfold opI
  simp only
  by_cases h1 : [60, 61].isPrefixOf (dl s) = true
  · simp [h1, sgn]
  · by_cases h2 : [62, 61].isPrefixOf (dl s) = true
    · simp [h1, h2, sgn]
    · by_cases h3 : [60].isPrefixOf (dl s) = true
      · simp [h1, h2, h3, sgn]
      · by_cases h4 : [62].isPrefixOf (dl s) = true
        · simp [h1, h2, h3, h4, sgn]
        · by_cases h5 : [61].isPrefixOf (dl s) = true
          · simp [h1, h2, h3, h4, h5, sgn]
          · simp [h1, h2, h3, h4, h5, span_Parse.sg, mk_dl]
theorem above_eq (l : List UInt8) (t : Bool) : span_above.f (parseP l).1.1 (parseP l).1.2.1 (parseP l).1.2.2.1 (parseP l).1.2.2.2 t = some ((nextV (parseP l).1 t).1, (nextV (parseP l).1 t).2.1, (nextV (parseP l).1 t).2.2.1, (nextV (parseP l).1 t).2.2.2) := by
  have h := parse_rng l
  unfold span_above.f nextV
  rw [wrapS (by omega) (by omega), wrapS (by omega) (by omega), wrapS (by omega) (by omega)]
  cases t with
  | true => rfl
  | false =>
    simp only [Bool.false_eq_true, if_false]
    (repeat' split) <;> rfl
theorem pword_eq (k : Nat) (s : ByteArray) (hs : s.size ≤ 2147483640) (hk : s.size + 20 < k) : span_Parse.word k s = some (match wordP (dl s) with | some a => (ofA a, true) | none => ([], false)) := by
  have hd := dl_len s
  unfold span_Parse.word
  rw [toList_eq]
  change (if (dl s).isEmpty = true then _ else _) = _
  cases hl : dl s with
  | nil => rfl
  | cons c r =>
    rw [hl, List.length_cons] at hd
    have h0 := At0 s
    rw [hl] at h0
    have hb := h0.byte
    have e42 : (⟨#[42]⟩ : ByteArray) = mk [42] := rfl
    rw [if_neg (by simp)]
    simp only [wordP]
    by_cases h42 : c = 42 ∧ r = []
    · have : s = ⟨#[42]⟩ := dl_inj (by rw [hl, h42.1, h42.2]; rfl)
      rw [if_pos this, if_pos h42]; rfl
    · have : ¬ s = ⟨#[42]⟩ := fun e => h42 (by
        have := congrArg dl e
        rw [hl, e42, dl_mk] at this
        exact List.cons.inj this)
      have hpre : [126].isPrefixOf (c :: r) = decide (c = 126) := by
        simp only [List.isPrefixOf, Bool.and_true]
        by_cases h : c = 126
        · subst h; rfl
        · rw [decide_eq_false h]; exact beq_eq_false_iff_ne.2 (fun e => h e.symm)
      have hx1 : s.extract 1 s.size = mk r := by rw [← mk_dl s, hl, mk_extract, mk_size]; simp
      have hne : mk r ≠ s := fun e => by have := congrArg ByteArray.size e; rw [mk_size] at this; omega
      have hwide : span_Parse.wide s (decide (c = 126)) = decide (c = 94 ∨ c = 126) := by
        unfold span_Parse.wide
        rw [hb]
        have : decide ((c.toNat : Int) = 94) = decide (c = 94) := by rw [decide_eq_decide]; exact (u8_eq (d := 94)).symm
        rw [this, ← Bool.decide_or, decide_eq_decide]
        exact or_comm
      rw [if_neg this, if_neg h42, hasp_eq s (by omega), hl, hpre]
      simp only [Option.bind_some, hwide]
      by_cases hw : c = 94 ∨ c = 126
      · rw [decide_eq_true hw, if_pos hw, if_pos rfl, if_pos rfl, hx1, signs_sgL, sg_off s (by omega) _ _ hne _ (fun y hy => by revert y; decide)]
        simp only [Option.bind_some]
        rw [pParse_eq k (mk r) (by rw [mk_size]; omega) (by rw [mk_size]; omega), dl_mk]
        simp only [Option.bind_some, flat5]
        rw [above_eq]
        cases (parseP r).2 <;> simp [ofA, ofB, ofV]
      · rw [decide_eq_false hw, if_neg hw, if_neg (by decide), if_neg (by decide), sg_eq s (by omega), hl]
        simp only [Option.bind_some]
        have ho := opW_len (c :: r)
        rw [List.length_cons] at ho
        rw [pParse_eq k _ (by rw [mk_size]; omega) (by rw [mk_size]; omega), dl_mk]
        simp only [Option.bind_some, flat5]
        cases (parseP (opW (c :: r)).2).2 <;> simp [ofA, ofB, ofV]
theorem wordP_len {w : List UInt8} {a : List Bd} (h : wordP w = some a) : a.length ≤ 2 ∧ SzP w.length a := by
  have h1 := one_word w
  have h2 := oneP_sz w
  cases w with
  | nil => simp [wordP] at h; subst h; exact ⟨by simp, fun b hb => by simp at hb⟩
  | cons c r =>
    simp only [wordP] at h
    split at h
    · obtain rfl := Option.some.inj h; exact ⟨by simp, fun b hb => by simp at hb⟩
    · split at h
      · split at h
        · obtain rfl := Option.some.inj h
          refine ⟨by simp, fun b hb => ?_⟩
          simp only [List.mem_cons, List.not_mem_nil, or_false] at hb
          have := parse_sz r
          rcases hb with rfl | rfl
          · show (parseP r).1.2.2.2.size ≤ _; simp; omega
          · have := next_pre (parseP r).1 (decide (c = 126)); simp only at this ⊢; omega
        · cases h
      · split at h
        · obtain rfl := Option.some.inj h
          refine ⟨by simp, fun b hb => ?_⟩
          simp only [List.mem_singleton] at hb
          subst hb
          have h1 := parse_sz (opW (c :: r)).2
          have h2 := opW_len (c :: r)
          show (parseP (opW (c :: r)).2).1.2.2.2.size ≤ _; omega
        · cases h
theorem altP_filter : ∀ ws : List (List UInt8), altP (ws.filter fun w => !w.isEmpty) = altP ws
  | [] => rfl
  | [] :: ws => by
    rw [List.filter_cons, if_neg (by simp), altP_filter ws]
    simp only [altP, wordP, Option.bind_some, List.nil_append]
    cases altP ws <;> rfl
  | (c :: r) :: ws => by rw [List.filter_cons, if_pos (by simp), altP, altP, altP_filter ws]
theorem pread_eq (k S : Nat) (hS : S ≤ 2147483000) (hk : S + 20 < k) : ∀ (ws : List (List UInt8)) (acc : List S45), (∀ w ∈ ws, w.length ≤ S) → acc.length + 2 * ws.length < 1000000 →
    span_Parse.read k (ws.map mk) acc = some (match altP ws with | some a => (acc ++ ofA a, true) | none => ([], false))
  | [], acc, _, _ => by simp [span_Parse.read, altP, ofA]
  | w :: ws, acc, h, ha => by
    rw [List.length_cons] at ha
    have hw := h w List.mem_cons_self
    rw [List.map_cons, span_Parse.read, if_pos (by omega), pword_eq k (mk w) (by rw [mk_size]; omega) (by rw [mk_size]; omega), dl_mk]
    simp only [Option.bind_some, altP]
    cases hp : wordP w with
    | none => rfl
    | some a =>
      have hl := (wordP_len hp).1
      simp only [Bool.true_eq_false, if_false, Option.bind_some]
      rw [pread_eq k S hS hk ws (acc ++ ofA a) (fun x hx => h x (List.mem_cons_of_mem _ hx)) (by rw [List.length_append, ofA_len]; omega)]
      cases altP ws with
      | none => rfl
      | some b => simp [ofA_app]
theorem pbound_ok (b : S45) : boundOk (toB b) = (decide (1 ≤ b.f0 ∧ b.f0 ≤ 5) && rightB (toV b.f1)) := rfl
theorem pRight_l1 (all : List (List S45)) (hall : all.length ≤ 1000000) (S K : Nat) (hS : S ≤ 1000000) (hK : S + 20 < K) (R : Option Bool) (i : Int) (hi : wrap64 (i + 1) = i + 1) (x : List S45) (hxl : x.length ≤ 1000000) (hR : ∀ k, K ≤ k → span_right.l0 k all all.length (i + 1) all = R) :
    ∀ (r : List S45) (k : Nat) (j : Int), Lt x j r → SzA S r → K + r.length + 1 ≤ k → span_right.l1 k x all all.length i x x.length j all = if (r.all fun b => boundOk (toB b)) = true then (if x.length > 8 then some false else R) else some false
  | [], k, j, h, _, hk => by
    obtain ⟨k, rfl, hk'⟩ := pred (show K < k by simp at hk; omega)
    simp only [span_right.l1]
    rw [if_neg h.not_lt, hi, hR k (by simp at hk; omega), List.all_nil, if_pos rfl]
    by_cases h8 : x.length > 8
    · rw [if_pos h8, if_pos (by omega)]
    · rw [if_neg h8, if_neg (by omega)]
  | b :: r, k, j, h, hs, hk => by
    obtain ⟨k, rfl, hk'⟩ := pred (show K < k by simp at hk; omega)
    have hb : rd_T45 x j = b := h.rd _
    have hbs := hs b List.mem_cons_self
    have ih := pRight_l1 all hall S K hS hK R i hi x hxl hR r k (j + 1) h.next (fun c hc => hs c (List.mem_cons_of_mem _ hc)) (by simp at hk; omega)
    have hp : version_Print.f k b.f1.f0 b.f1.f1 b.f1.f2 b.f1.f3 = some (mk (printP (toV b.f1)).1, (printP (toV b.f1)).2) := print_eq k (toV b.f1) (by show b.f1.f3.size ≤ _; omega) (by show b.f1.f3.size + 10 < k; omega)
    have hp2 : (printP (toV b.f1)).2 = rightB (toV b.f1) := by unfold printP; split <;> simp_all
    have hO := pbound_ok b
    have hall2 : ((b :: r).all fun b => boundOk (toB b)) = (boundOk (toB b) && r.all fun b => boundOk (toB b)) := rfl
    simp only [span_right.l1]
    rw [if_pos h.lt, if_pos h.ge, if_pos h.lt, hb, hp, h.wrap (by omega)]
    simp only [Option.bind_some, hp2, ih]
    generalize (if x.length > 8 then some false else R) = Y
    by_cases hq : rightB (toV b.f1) = true
    · rw [if_pos hq]
      by_cases c1 : b.f0 < 1
      · rw [if_pos c1, if_neg (by rw [hall2, hO, decide_eq_false (by omega)]; simp)]
      · rw [if_neg c1]
        by_cases c2 : b.f0 > 5
        · rw [if_pos c2, if_neg (by rw [hall2, hO, decide_eq_false (by omega)]; simp)]
        · rw [if_neg c2]
          rw [decide_eq_true (show 1 ≤ b.f0 ∧ b.f0 ≤ 5 by omega), hq] at hO
          by_cases ha : (r.all fun b => boundOk (toB b)) = true
          · rw [if_pos ha, if_pos (by rw [hall2, hO, ha]; rfl)]
          · rw [if_neg ha, if_neg (by rw [hall2, hO]; simpa using ha)]
    · rw [Bool.not_eq_true] at hq
      rw [if_neg (by rw [hq]; decide), if_neg (c := ((b :: r).all fun b => boundOk (toB b)) = true) (by rw [hall2, hO, hq]; simp)]
theorem allB_toA (x : List S45) : (toA x).all boundOk = x.all fun b => boundOk (toB b) := by unfold toA; rw [List.all_map]; rfl
theorem pRight_l0 (all : List (List S45)) (hall : all.length ≤ 1000000) (S M C : Nat) (hM : M ≤ 1000000) (hS : S ≤ 1000000) (hC : S + 20 < C) : ∀ (rest : List (List S45)) (k : Nat) (i : Int), Lt all i rest → SzR S rest → (∀ x ∈ rest, x.length ≤ M) → (M + 2) * rest.length + C ≤ k →
    span_right.l0 k all all.length i all = some ((toR rest).all rightA && decide (1 ≤ all.length ∧ all.length ≤ 8))
  | [], k, i, h, _, _, hk => by
    obtain ⟨k, rfl, hk'⟩ := pred (show 0 < k by omega)
    simp only [span_right.l0]
    rw [if_neg h.not_lt]
    show _ = some (true && _)
    rw [Bool.true_and]
    by_cases h1 : (all.length : Int) ≥ 1
    · rw [if_pos h1]
      congr 1
      rw [decide_eq_decide]; omega
    · rw [if_neg h1, decide_eq_false (by omega)]
  | x :: rest, k, i, h, hs, hx, hk => by
    obtain ⟨k, rfl, hk'⟩ := pred (show 0 < k by omega)
    rw [List.length_cons, Nat.mul_add, Nat.mul_one] at hk
    have hr : rd_L4 all i = x := h.rd _
    have hxl := hx x List.mem_cons_self
    simp only [span_right.l0]
    rw [if_pos h.lt, if_pos h.ge, if_pos h.lt, hr]
    rw [pRight_l1 all hall S ((M + 2) * rest.length + C) hS (by omega) _ i (h.wrap (by omega)) x (by omega) (fun k hk => pRight_l0 all hall S M C hM hS hC rest k (i + 1) h.next (fun y hy => hs y (List.mem_cons_of_mem _ hy)) (fun y hy => hx y (List.mem_cons_of_mem _ hy)) hk) x k 0 (Lt.zero x) (hs x List.mem_cons_self) (by omega)]
    rw [toR_cons, List.all_cons, rightA_def, toA_len, allB_toA]
    by_cases ha : (x.all fun b => boundOk (toB b)) = true
    · rw [if_pos ha, ha, Bool.and_true]
      by_cases h8 : x.length > 8
      · rw [if_pos h8, decide_eq_false (show ¬ x.length ≤ 8 by omega)]; rfl
      · rw [if_neg h8, decide_eq_true (show x.length ≤ 8 by omega), Bool.true_and]
    · rw [if_neg ha]
      rw [Bool.not_eq_true] at ha
      rw [ha, Bool.and_false]; rfl
theorem pRight_eq (k : Nat) (all : List (List S45)) (S M : Nat) (hall : all.length ≤ 100000) (hM : M ≤ 100000) (hS : S ≤ 100000) (hs : SzR S all) (hx : ∀ x ∈ all, x.length ≤ M) (hk : (M + 2) * all.length + S + 21 ≤ k) : span_right.f k all = some (rightR (toR all)) := by
  unfold span_right.f rightR
  rw [pRight_l0 all (by omega) S M (S + 21) (by omega) (by omega) (by omega) all k 0 (Lt.zero all) hs hx (by omega), toR_len, Bool.and_comm]
theorem pgo_eq (k S : Nat) (hS : S ≤ 20000) : ∀ (ps : List (List UInt8)) (all : List (List S45)), (∀ p ∈ ps, p.length ≤ S) → SzR S all → (∀ x ∈ all, x.length ≤ 2 * S + 2) → all.length + ps.length ≤ 50000 → (2 * S + 4) * (all.length + ps.length) + S + 30 ≤ k →
    span_Parse.go k (ps.map mk) all = some (finS ((altsP ps).bind fun r => some (all ++ ofR r)))
  | [], all, _, hs, hx, ha, hk => by
    rw [List.map_nil, span_Parse.go, pRight_eq k all S (2 * S + 2) (by omega) (by omega) (by omega) hs hx (by rw [show 2 * S + 2 + 2 = 2 * S + 4 by omega]; simp at hk; omega)]
    simp only [Option.bind_some, altsP, ofR, List.map_nil, List.append_nil, finS]
    split <;> rfl
  | p :: ps, all, h, hs, hx, ha, hk => by
    rw [List.length_cons] at ha hk
    have hp := h p List.mem_cons_self
    have hcl := cuts_len 32 p
    have hmul : (2 * S + 4) * 1 ≤ (2 * S + 4) * (all.length + (ps.length + 1)) := Nat.mul_le_mul_left _ (by omega)
    rw [List.map_cons, span_Parse.go, if_pos (by rw [mk_size]; omega), if_pos (by omega), cutsL_mk, dl_mk]
    rw [pread_eq k S (by omega) (by omega) (cuts 32 p) [] (fun w hw => by have := cuts_le 32 p w hw; omega) (by simp; omega)]
    have hf := altP_filter (cuts 32 p)
    have hwd : (cuts 32 p).filter (fun w => !w.isEmpty) = words p := rfl
    rw [hwd] at hf
    rw [← hf]
    simp only [Option.bind_some, altsP, List.nil_append]
    cases hq : altP (words p) with
    | none => rfl
    | some a =>
      have hsz : SzP S a ∧ a.length ≤ 2 * S + 2 := by
        have gen : ∀ (ws : List (List UInt8)) (a : List Bd), altP ws = some a → (∀ w ∈ ws, w.length ≤ S) → SzP S a ∧ a.length ≤ 2 * ws.length := by
          intro ws
          induction ws with
          | nil => intro a h _; simp [altP] at h; subst h; exact ⟨fun b hb => by simp at hb, by simp⟩
          | cons w ws ih =>
            intro a h hw
            simp only [altP] at h
            obtain ⟨b, hb, h⟩ := Option.bind_eq_some_iff.1 h
            obtain ⟨c, hc, h⟩ := Option.bind_eq_some_iff.1 h
            obtain rfl := Option.some.inj h
            have h1 := wordP_len hb
            have h2 := ih c hc (fun x hx => hw x (List.mem_cons_of_mem _ hx))
            have h3 := hw w List.mem_cons_self
            refine ⟨fun x hx => (List.mem_append.1 hx).elim (fun hx => by have := h1.2 x hx; omega) (h2.1 x), by rw [List.length_append, List.length_cons]; omega⟩
        have hwl := words_len p
        have := gen (words p) a hq (fun w hw => by have := (words_mem hw).2; omega)
        exact ⟨this.1, by omega⟩
      simp only [Bool.true_eq_false, if_false, Option.bind_some]
      rw [pgo_eq k S hS ps (all ++ [ofA a]) (fun x hx => h x (List.mem_cons_of_mem _ hx))
        (fun x hx => (List.mem_append.1 hx).elim (hs x) (fun hx => by simp only [List.mem_singleton] at hx; subst hx; exact szA_ofA hsz.1))
        (fun x hm => (List.mem_append.1 hm).elim (hx x) (fun hm => by simp only [List.mem_singleton] at hm; subst hm; rw [ofA_len]; exact hsz.2))
        (by rw [List.length_append, List.length_singleton]; omega) (by rw [List.length_append, List.length_singleton, show all.length + 1 + ps.length = all.length + (ps.length + 1) by omega]; omega)]
      cases altsP ps with
      | none => rfl
      | some r => simp [ofR]
theorem pParse05_eq (k : Nat) (s : ByteArray) (hs : s.size ≤ 10000) (hk : 500000000 < k) : span_Parse.f k s = some (ofR (parseR (dl s)).1, (parseR (dl s)).2) := by
  have hl := cuts2_len (dl s)
  have h2 := dl_len s
  unfold span_Parse.f
  rw [if_pos (by omega), cutsD_eq]
  have hmul : (2 * 10000 + 4) * (0 + (cuts2 (dl s)).length) ≤ (2 * 10000 + 4) * 10001 := Nat.mul_le_mul_left _ (by omega)
  rw [pgo_eq k 10000 (by omega) (cuts2 (dl s)) [] (fun p hp => by have := cuts2_le _ p hp; omega) (fun l hl => by simp at hl) (fun x hx => by simp at hx) (by simp; omega) (by simp only [List.length_nil]; omega)]
  rw [finS_finR]; rfl
end Go.Proofs.YtijooffpjfhidaaGreatDoor.Vp
end
section
namespace Go.Proofs.YtijooffpjfhidaaGreatDoor.Vp
open Go Go.RowKit Go.Proofs.YtijooffpjfhidaaGreatDoorW.PrintWords Go.Proofs.YtijooffpjfhidaaGreatDoor.Txt Go.Proofs.YtijooffpjfhidaaGreatDoor.Trim Go.Proofs.YtijooffpjfhidaaGreatDoor.Num Go.Proofs.YtijooffpjfhidaaGreatDoor.Seq Go.Proofs.YtijooffpjfhidaaGreatDoor.G
theorem pholds_eq (k : Nat) (b : S45) (v : Ver) (hb : b.f1.f3.size ≤ 1000000) (hv : v.2.2.2.size ≤ 1000000) (hk : 10000000 < k) :
    span_holds.f k b.f0 b.f1.f0 b.f1.f1 b.f1.f2 b.f1.f3 v.1 v.2.1 v.2.2.1 v.2.2.2 = some (holdsB (toB b) v) := by
  unfold span_holds.f
  have e : version_Compare.f k v.1 v.2.1 v.2.2.1 v.2.2.2 b.f1.f0 b.f1.f1 b.f1.f2 b.f1.f3 = some (cmpT v (toB b).2) := pCompare_eq k v (toV b.f1) hv hb hk
  rw [e]; rfl
theorem pnear_eq (b : S45) (v : Ver) : span_near.f b.f0 b.f1.f0 b.f1.f1 b.f1.f2 b.f1.f3 v.1 v.2.1 v.2.2.1 v.2.2.2 = some (nearB (toB b) v) := by
  unfold span_near.f
  rw [toList_eq]
  have hn : nearB (toB b) v = (!(dl b.f1.f3).isEmpty && (decide (b.f1.f0 = v.1) && decide (b.f1.f1 = v.2.1) && decide (b.f1.f2 = v.2.2.1))) := rfl
  rw [hn]
  change (if dl b.f1.f3 = [] then _ else _) = _
  cases dl b.f1.f3 with
  | nil => rfl
  | cons c r =>
    rw [if_neg (by simp), Bool.and_assoc]; rfl
theorem pone_eq (k : Nat) (v : Ver) (hv : v.2.2.2.size ≤ 1000000) (hk : 10000000 < k) : ∀ (l : List S45) (may : Bool), SzA 1000000 l →
    span_Holds.one k v.1 v.2.1 v.2.2.1 v.2.2.2 l may = some (((toA l).all fun b => holdsB b v) && (may || (toA l).any fun b => nearB b v))
  | [], may, _ => by simp [span_Holds.one, toA]
  | b :: l, may, h => by
    rw [span_Holds.one, pholds_eq k b v (h b List.mem_cons_self) hv hk, pnear_eq, toA_cons]
    simp only [Option.bind_some, List.all_cons, List.any_cons]
    rw [pone_eq k v hv hk l _ (fun c hc => h c (List.mem_cons_of_mem _ hc))]
    cases holdsB (toB b) v <;> simp [Bool.or_assoc]
theorem pany_eq (k : Nat) (v : Ver) (hv : v.2.2.2.size ≤ 1000000) (hk : 10000000 < k) : ∀ r : List (List S45), SzR 1000000 r →
    span_Holds.any k v.1 v.2.1 v.2.2.1 v.2.2.2 r = some ((toR r).any fun l => letsA l v)
  | [], _ => rfl
  | l :: r, h => by
    rw [span_Holds.any, pone_eq k v hv hk l _ (h l List.mem_cons_self), pany_eq k v hv hk r (fun x hx => h x (List.mem_cons_of_mem _ hx)), toR_cons, List.any_cons, toList_eq]
    have : letsA (toA l) v = (((toA l).all fun b => holdsB b v) && (v.2.2.2.data.toList.isEmpty || (toA l).any fun b => nearB b v)) := rfl
    rw [this]
    simp only [Option.bind_some]
    cases (((toA l).all fun b => holdsB b v) && (v.2.2.2.data.toList.isEmpty || (toA l).any fun b => nearB b v)) <;> simp
theorem printP_ok (v : Ver) : (printP v).2 = rightB v := by
  unfold printP
  cases rightB v <;> rfl
theorem pHolds05_eq (k : Nat) (r : List (List S45)) (v : Ver) (hs : SzR 100000 r) (hx : ∀ x ∈ r, x.length ≤ 1000) (hl : r.length ≤ 1000) (hv : v.2.2.2.size ≤ 1000000) (hk : 20000000 < k) :
    span_Holds.f k r v.1 v.2.1 v.2.2.1 v.2.2.2 = some (holdsR (toR r) v) := by
  have hmul : (1000 + 2) * r.length ≤ (1000 + 2) * 1000 := Nat.mul_le_mul_left _ hl
  unfold span_Holds.f holdsR
  rw [print_eq k v (by omega) (by omega), pRight_eq k r 100000 1000 (by omega) (by omega) (by omega) hs hx (by omega), pany_eq k v hv (by omega) r (fun l hl b hb => by have := hs l hl b hb; omega)]
  simp only [Option.bind_some, printP_ok]
  cases rightB v <;> cases rightR (toR r) <;> simp
theorem signs_op (o : Int) (h1 : 1 ≤ o) (h5 : o ≤ 5) (s : ByteArray) (hs : s.size ≤ 1000000) (ws : List ByteArray) (hw : ws.length ≤ 1000000) : span_Print.sg o s span_Print.signs ws = some (ws ++ [mk (sgn o ++ dl s)]) := by
  have e : ∀ l : List UInt8, mk l ++ s = mk (l ++ dl s) := fun l => by have := mk_append l (dl s); rwa [mk_dl] at this
  have z1 : ∀ a : UInt8, (⟨#[a]⟩ : ByteArray).size = 1 := fun _ => rfl
  have z2 : ∀ a b : UInt8, (⟨#[a, b]⟩ : ByteArray).size = 2 := fun _ _ => rfl
  have c : o = 1 ∨ o = 2 ∨ o = 3 ∨ o = 4 ∨ o = 5 := by omega
  have a1 : ws.length < 8796093022208 := by omega
  have a2 : 1 + s.size ≤ 9223372036854775807 := by omega
  have a3 : 2 + s.size ≤ 9223372036854775807 := by omega
  rcases c with rfl | rfl | rfl | rfl | rfl <;>
  · simp only [span_Print.signs, span_Print.sg, z1, z2, a1, a2, a3, if_true, sgn]
    first | (simp; done) | (simp; exact e _)
theorem ppr_ok (k : Nat) (b : S45) (hb : b.f1.f3.size ≤ 100000) (hk : 1000000 < k) (ho : boundOk (toB b) = true) : version_Print.f k b.f1.f0 b.f1.f1 b.f1.f2 b.f1.f3 = some (mk (told (toV b.f1)), true) := by
  have h := print_eq k (toV b.f1) (by show b.f1.f3.size ≤ _; omega) (by show b.f1.f3.size + 10 < k; omega)
  have hr : rightB (toV b.f1) = true := by have := ho; rw [pbound_ok, Bool.and_eq_true] at this; exact this.2
  unfold printP at h
  rw [if_pos hr] at h
  exact h
theorem prow_eq (k : Nat) (hk : 1000000 < k) : ∀ (l : List S45) (ws : List ByteArray), SzA 100000 l → (toA l).all boundOk = true → ws.length + l.length ≤ 100000 →
    span_Print.row k l ws = some (ws ++ (toA l).map fun b => mk (wordB b))
  | [], ws, _, _, _ => by simp [span_Print.row, toA]
  | b :: l, ws, h, ho, hw => by
    rw [toA_cons, List.all_cons, Bool.and_eq_true] at ho
    rw [List.length_cons] at hw
    have hb := h b List.mem_cons_self
    have hbl := wordB_len ho.1
    have hwb : wordB (toB b) = sgn b.f0 ++ told (toV b.f1) := rfl
    rw [hwb, List.length_append] at hbl
    have h15 : 1 ≤ b.f0 ∧ b.f0 ≤ 5 := by have := ho.1; rw [pbound_ok, Bool.and_eq_true] at this; exact of_decide_eq_true this.1
    rw [span_Print.row, ppr_ok k b hb hk ho.1]
    simp only [Option.bind_some]
    rw [signs_op b.f0 h15.1 h15.2 _ (by rw [mk_size]; omega) ws (by omega)]
    simp only [Option.bind_some, dl_mk]
    rw [prow_eq k hk l _ (fun c hc => h c (List.mem_cons_of_mem _ hc)) ho.2 (by rw [List.length_append, List.length_singleton]; omega), toA_cons]
    simp [hwb]
theorem join_two (x y : List UInt8) (t : List (List UInt8)) (sep : List UInt8) : Lib.join (x :: y :: t) sep = x ++ sep ++ Lib.join (y :: t) sep := by
  rw [Lib.join_cons, Lib.join_cons]
  simp [Lib.joinTail]
theorem join_C (c : UInt8) : ∀ l : List (List UInt8), Lib.join l [c] = joinC c l
  | [] => Lib.join_nil _
  | [x] => Lib.join_one _ _
  | x :: y :: t => by
    rw [join_two, join_C c (y :: t), joinC_cons c x (by simp)]; simp
theorem join_D : ∀ l : List (List UInt8), Lib.join l [32, 124, 124, 32] = joinD l
  | [] => Lib.join_nil _
  | [x] => Lib.join_one _ _
  | x :: y :: t => by
    rw [join_two, join_D (y :: t), joinD_cons x (by simp)]; simp
theorem sjoin_eq (l : List (List UInt8)) (sep : List UInt8) (h1 : l.length ≤ 140737488355328) (h2 : (Lib.join l sep).length ≤ 140737488355328) : strings_Join.f (l.map mk) (mk sep) = some (mk (Lib.join l sep)) := by
  unfold strings_Join.f
  have e : (l.map mk).map (·.data.toList) = l := map_dl_mk l
  have e2 : (mk sep).data.toList = sep := rfl
  rw [List.length_map, if_pos h1, e, e2, if_pos h2]; rfl
theorem bodyA_len : ∀ (l : List S45), (toA l).all boundOk = true → (tailA (toA l)).length ≤ lenA l ∧ (bodyA (toA l)).length ≤ lenA l
  | [], _ => ⟨by simp [toA, tailA], by simp [toA, bodyA]⟩
  | b :: l, h => by
    rw [toA_cons, List.all_cons, Bool.and_eq_true] at h
    have ih := bodyA_len l h.2
    have hb := wordB_len h.1
    have hl : lenA (b :: l) = 30 + b.f1.f3.size + lenA l := by simp [lenA]
    rw [toA_cons, hl]
    simp only [tailA, bodyA, List.length_cons, List.length_append]
    omega
theorem wordA_len (l : List S45) (h : (toA l).all boundOk = true) : (wordA (toA l)).length ≤ lenA l + 1 := by
  rw [wordA_body]
  have := (bodyA_len l h).2
  split
  · simp
  · omega
theorem tailD_len : ∀ (r : List (List S45)), (toR r).all rightA = true → (tailD (toR r)).length ≤ lenR r
  | [], _ => by simp [toR, tailD]
  | l :: r, h => by
    rw [toR_cons, List.all_cons, Bool.and_eq_true, rightA_def, Bool.and_eq_true] at h
    have ih := tailD_len r h.2
    have hw := wordA_len l h.1.2
    have hl : lenR (l :: r) = 10 + lenA l + lenR r := by simp [lenR]
    rw [toR_cons, hl]
    simp only [tailD, List.length_cons, List.length_append]
    omega
theorem joinD_len (r : List (List S45)) (h : (toR r).all rightA = true) : (joinD ((toR r).map wordA)).length ≤ lenR r := by
  cases r with
  | nil => simp [toR, joinD]
  | cons l r =>
    have h' := h
    rw [toR_cons, List.all_cons, Bool.and_eq_true, rightA_def, Bool.and_eq_true] at h
    rw [toR_cons, joinD_tail, List.length_append]
    have h1 := wordA_len l h.1.2
    have h2 := tailD_len r h.2
    have hl : lenR (l :: r) = 10 + lenA l + lenR r := by simp [lenR]
    omega
theorem pgo05_eq (k : Nat) (hk : 1000000 < k) : ∀ (r : List (List S45)) (all : List ByteArray), SzR 100000 r → (toR r).all rightA = true → all.length + r.length ≤ 100000 →
    span_Print.go k r all = some (all ++ (toR r).map fun l => mk (wordA l))
  | [], all, _, _, _ => by simp [span_Print.go, toR]
  | l :: r, all, h, ho, ha => by
    rw [toR_cons, List.all_cons, Bool.and_eq_true, rightA_def, Bool.and_eq_true, toA_len] at ho
    rw [List.length_cons] at ha
    have h8 := of_decide_eq_true ho.1.1
    rw [span_Print.go, prow_eq k hk l [] (h l List.mem_cons_self) ho.1.2 (by simp; omega)]
    simp only [Option.bind_some, List.nil_append]
    have hsz : lenA l ≤ 8 * 100030 := by
      have gen : ∀ (l : List S45), SzA 100000 l → lenA l ≤ l.length * 100030 := by
        intro l
        induction l with
        | nil => intro _; simp [lenA]
        | cons b l ih =>
          intro h
          have := ih (fun c hc => h c (List.mem_cons_of_mem _ hc))
          have hb := h b List.mem_cons_self
          have hl : lenA (b :: l) = 30 + b.f1.f3.size + lenA l := by simp [lenA]
          rw [hl, List.length_cons, Nat.add_mul]; omega
      have := gen l (h l List.mem_cons_self)
      exact Nat.le_trans this (Nat.mul_le_mul_right 100030 h8)
    have hj : strings_Join.f (if ((toA l).map fun b => mk (wordB b)).length = 0 then [⟨#[42]⟩] else (toA l).map fun b => mk (wordB b)) ⟨#[32]⟩ = some (mk (wordA (toA l))) := by
      have e32 : (⟨#[32]⟩ : ByteArray) = mk [32] := rfl
      rw [List.length_map, toA_len, e32]
      cases l with
      | nil =>
        rw [if_pos (show ([] : List S45).length = 0 from rfl)]
        exact sjoin_eq [[42]] [32] (by decide) (by rw [join_C]; decide)
      | cons b l =>
        have hne : toA (b :: l) ≠ [] := by rw [toA_cons]; simp
        have e1 : ((toA (b :: l)).map fun b => mk (wordB b)) = ((toA (b :: l)).map wordB).map mk := by rw [List.map_map]; rfl
        have hb := (bodyA_len (b :: l) ho.1.2).2
        rw [if_neg (by simp), e1, sjoin_eq _ _ (by rw [List.length_map, toA_len]; omega) (by rw [join_C, joinC_body]; omega), join_C, joinC_body, wordA_body, if_neg hne]
    rw [hj]
    simp only [Option.bind_some]
    rw [if_pos (by omega), pgo05_eq k hk r _ (fun x hx => h x (List.mem_cons_of_mem _ hx)) ho.2 (by rw [List.length_append, List.length_singleton]; omega), toR_cons]
    simp
theorem lenR_le (r : List (List S45)) (S M : Nat) (hs : SzR S r) (hx : ∀ x ∈ r, x.length ≤ M) : lenR r ≤ r.length * (10 + M * (30 + S)) := by
  have gen : ∀ (l : List S45), SzA S l → lenA l ≤ l.length * (30 + S) := by
    intro l
    induction l with
    | nil => intro _; simp [lenA]
    | cons b l ih =>
      intro h
      have := ih (fun c hc => h c (List.mem_cons_of_mem _ hc))
      have hb := h b List.mem_cons_self
      have hl : lenA (b :: l) = 30 + b.f1.f3.size + lenA l := by simp [lenA]
      rw [hl, List.length_cons, Nat.add_mul]; omega
  induction r with
  | nil => simp [lenR]
  | cons l r ih =>
    have h1 := ih (fun x hx => hs x (List.mem_cons_of_mem _ hx)) (fun y hy => hx y (List.mem_cons_of_mem _ hy))
    have h2 := gen l (hs l List.mem_cons_self)
    have h3 : l.length * (30 + S) ≤ M * (30 + S) := Nat.mul_le_mul_right _ (hx l List.mem_cons_self)
    have hl : lenR (l :: r) = 10 + lenA l + lenR r := by simp [lenR]
    rw [hl, List.length_cons, Nat.add_mul]; omega
theorem pPrint05_eq (k : Nat) (r : List (List S45)) (hs : SzR 100000 r) (hx : ∀ x ∈ r, x.length ≤ 1000) (hl : r.length ≤ 1000) (hk : 20000000 < k) : span_Print.f k r = some (mk (printR (toR r)).1, (printR (toR r)).2) := by
  have hmul : (1000 + 2) * r.length ≤ (1000 + 2) * 1000 := Nat.mul_le_mul_left _ hl
  unfold span_Print.f printR
  rw [pRight_eq k r 100000 1000 (by omega) (by omega) (by omega) hs hx (by omega)]
  simp only [Option.bind_some]
  by_cases h : rightR (toR r) = true
  · have hm := rightR_mem h
    rw [toR_len] at hm
    have hall := List.all_eq_true.2 hm.2
    have hlen := lenR_le r 100000 1000 hs hx
    have hmul2 : r.length * (10 + 1000 * (30 + 100000)) ≤ 1000 * (10 + 1000 * (30 + 100000)) := Nat.mul_le_mul_right _ hl
    have hjl := joinD_len r hall
    rw [h, if_neg (by decide), if_pos rfl, pgo05_eq k (by omega) r [] hs hall (by simp; omega)]
    simp only [Option.bind_some, List.nil_append, span_Print.fin]
    have e1 : ((toR r).map fun l => mk (wordA l)) = ((toR r).map wordA).map mk := by rw [List.map_map]; rfl
    have e2 : (⟨#[32, 124, 124, 32]⟩ : ByteArray) = mk [32, 124, 124, 32] := rfl
    rw [e1, e2, sjoin_eq _ _ (by rw [List.length_map, toR_len]; omega) (by rw [join_D]; omega), join_D]
    rfl
  · rw [Bool.not_eq_true] at h
    rw [h, if_pos rfl, if_neg (by decide)]; rfl
theorem joinC_len (c : UInt8) : ∀ (ls : List (List UInt8)) (n : Nat), (∀ x ∈ ls, x.length ≤ n) → (joinC c ls).length ≤ ls.length * (n + 1)
  | [], n, _ => by simp [joinC]
  | [x], n, h => by have := h x List.mem_cons_self; simp [joinC]; omega
  | x :: y :: t, n, h => by
    have ih := joinC_len c (y :: t) n (fun z hz => h z (List.mem_cons_of_mem _ hz))
    have hx := h x List.mem_cons_self
    rw [joinC_cons c x (by simp), List.length_append, List.length_cons, List.length_cons, Nat.add_mul]; omega
theorem right_sz {v : Ver} (h : rightB v = true) : v.2.2.2.size ≤ 55 := by
  have hp := (right_nums h).2.2.2
  rw [← dl_len]
  unfold preB at hp
  rw [Bool.or_eq_true] at hp
  rcases hp with hp | hp
  · cases hd : dl v.2.2.2 with
    | nil => simp
    | cons => rw [hd] at hp; simp at hp
  · rw [Bool.and_eq_true] at hp
    have h5 := of_decide_eq_true hp.2
    have hl := joinC_len 46 (cuts 46 (dl v.2.2.2)) 10 (fun x hx => by
      have := List.all_eq_true.1 hp.1 x hx
      unfold partB at this
      simp only [Bool.and_eq_true] at this
      exact of_decide_eq_true this.1.1.2)
    rw [cuts_join] at hl
    have : (cuts 46 (dl v.2.2.2)).length * (10 + 1) ≤ 5 * (10 + 1) := Nat.mul_le_mul_right _ h5
    omega
theorem right_small {r : List (List S45)} (h : rightR (toR r) = true) : SzR 55 r ∧ (∀ x ∈ r, x.length ≤ 8) ∧ r.length ≤ 8 ∧ (wordR (toR r)).length ≤ 6000 := by
  have hm := rightR_mem h
  rw [toR_len] at hm
  have hA : ∀ l ∈ r, rightA (toA l) = true := fun l hl => hm.2 (toA l) (List.mem_map_of_mem hl)
  have h1 : SzR 55 r := fun l hl b hb => right_sz ((rightA_mem (hA l hl)).2 (toB b) (List.mem_map_of_mem hb)).2
  have h2 : ∀ x ∈ r, x.length ≤ 8 := fun x hx => by have := (rightA_mem (hA x hx)).1; rwa [toA_len] at this
  refine ⟨h1, h2, hm.1.2, ?_⟩
  have hlen := lenR_le r 55 8 h1 h2
  have hmul : r.length * (10 + 8 * (30 + 55)) ≤ 8 * (10 + 8 * (30 + 55)) := Nat.mul_le_mul_right _ hm.1.2
  have := joinD_len r (List.all_eq_true.2 hm.2)
  unfold wordR
  omega
theorem small_nil : SzR 55 ([] : List (List S45)) ∧ (∀ x ∈ ([] : List (List S45)), x.length ≤ 8) ∧ ([] : List (List S45)).length ≤ 8 := ⟨fun l hl => by simp at hl, fun l hl => by simp at hl, by simp⟩
theorem parse_small (s : List UInt8) : SzR 55 (ofR (parseR s).1) ∧ (∀ x ∈ ofR (parseR s).1, x.length ≤ 8) ∧ (ofR (parseR s).1).length ≤ 8 := by
  cases h : parseR s with
  | mk r t =>
    cases t with
    | true =>
      have := right_small (r := ofR r) (by rw [toR_ofR]; exact parseR_right h)
      exact ⟨this.1, this.2.1, this.2.2.1⟩
    | false =>
      obtain rfl := parseR_none h
      exact small_nil
theorem SzR.up {n m : Nat} {r : List (List S45)} (h : SzR n r) (hm : n ≤ m) : SzR m r := fun l hl b hb => Nat.le_trans (h l hl b hb) hm
def wordT (s : List UInt8) : List UInt8 := if (parseR s).2 = true then (if (printR (parseR s).1).2 = true then (printR (parseR s).1).1 else [110, 111, 110, 101]) else [110, 111, 110, 101]
theorem word_eq (k : Nat) (s : ByteArray) (hs : s.size ≤ 10000) (hk : 500000000 < k) : hoggetlaw05_word.f k s = some (mk (wordT (dl s))) := by
  have h := parse_small (dl s)
  unfold hoggetlaw05_word.f wordT
  rw [pParse05_eq k s hs hk]
  simp only [Option.bind_some]
  rw [pPrint05_eq k _ (h.1.up (by omega)) (fun x hx => by have := h.2.1 x hx; omega) (by omega) (by omega), toR_ofR]
  simp only [Option.bind_some]
  (repeat' split) <;> rfl
def holdsT (s t : List UInt8) : Bool := (parseR s).2 && ((parseP t).2 && holdsR (parseR s).1 (parseP t).1)
theorem holds_eq (k : Nat) (s t : ByteArray) (hs : s.size ≤ 10000) (ht : t.size ≤ 10000) (hk : 500000000 < k) : hoggetlaw05_holds.f k s t = some (holdsT (dl s) (dl t)) := by
  have h := parse_small (dl s)
  have h2 := parse_sz (dl t)
  have h3 := dl_len t
  unfold hoggetlaw05_holds.f holdsT
  rw [pParse05_eq k s hs hk, pParse_eq k t (by omega) (by omega)]
  simp only [Option.bind_some, flat5]
  rw [pHolds05_eq k _ (parseP (dl t)).1 (h.1.up (by omega)) (fun x hx => by have := h.2.1 x hx; omega) (by omega) (by omega) (by omega), toR_ofR]
  simp only [Option.bind_some]
  cases (parseR (dl s)).2 <;> cases (parseP (dl t)).2 <;> simp
theorem w1 : wordT [94, 49, 46, 50, 46, 51] = [62, 61, 49, 46, 50, 46, 51, 32, 60, 50, 46, 48, 46, 48] := by decide +kernel
theorem w2 : wordT [94, 48, 46, 50, 46, 51] = [62, 61, 48, 46, 50, 46, 51, 32, 60, 48, 46, 51, 46, 48] := by decide +kernel
theorem w3 : wordT [94, 48, 46, 48, 46, 51] = [62, 61, 48, 46, 48, 46, 51, 32, 60, 48, 46, 48, 46, 52] := by decide +kernel
theorem w4 : wordT [126, 49, 46, 50, 46, 51] = [62, 61, 49, 46, 50, 46, 51, 32, 60, 49, 46, 51, 46, 48] := by decide +kernel
theorem w5 : wordT [] = [42] := by decide +kernel
theorem w6 : wordT [49, 46, 48, 46, 48, 124, 124, 62, 50, 46, 48, 46, 48, 32, 42] = [61, 49, 46, 48, 46, 48, 32, 124, 124, 32, 62, 50, 46, 48, 46, 48] := by decide +kernel
theorem w7 : wordT [49, 46, 48] = [110, 111, 110, 101] := by decide +kernel
theorem w8 : wordT [94, 57, 57, 57, 57, 57, 57, 46, 48, 46, 48] = [110, 111, 110, 101] := by decide +kernel
theorem v1 : holdsT [94, 49, 46, 50, 46, 51] [49, 46, 50, 46, 52, 45, 97] = false := by decide +kernel
theorem v2 : holdsT [94, 49, 46, 50, 46, 51] [49, 46, 57, 46, 48] = true := by decide +kernel
theorem v3 : holdsT [62, 61, 49, 46, 50, 46, 51, 45, 97] [49, 46, 50, 46, 51, 45, 98] = true := by decide +kernel
theorem spans_eq (k : Nat) (hk : 500000001 < k) : hoggetlaw05_spans.f k = some true := by
  have W : ∀ (k : Nat) (s : ByteArray) (t : List UInt8), s.size ≤ 10000 → wordT (dl s) = t → 500000000 < k → hoggetlaw05_word.f k s = some (mk t) := fun k s t hs h hk => by rw [word_eq k s hs hk, h]
  have V : ∀ (k : Nat) (s u : ByteArray) (t : Bool), s.size ≤ 10000 → u.size ≤ 10000 → holdsT (dl s) (dl u) = t → 500000000 < k → hoggetlaw05_holds.f k s u = some t := fun k s u t hs hu h hk => by rw [holds_eq k s u hs hu hk, h]
  unfold hoggetlaw05_spans.f
  rw [W k ⟨#[94, 49, 46, 50, 46, 51]⟩ _ (by decide) w1 (by omega)]
  simp only [Option.bind_some, mk_toList, if_true]
  rw [W k ⟨#[94, 48, 46, 50, 46, 51]⟩ _ (by decide) w2 (by omega)]
  simp only [Option.bind_some, mk_toList, if_true]
  rw [W k ⟨#[94, 48, 46, 48, 46, 51]⟩ _ (by decide) w3 (by omega)]
  simp only [Option.bind_some, mk_toList, if_true]
  rw [W k ⟨#[126, 49, 46, 50, 46, 51]⟩ _ (by decide) w4 (by omega)]
  simp only [Option.bind_some, mk_toList, if_true]
  rw [W k ⟨#[]⟩ _ (by decide) w5 (by omega)]
  simp only [Option.bind_some, mk_toList, if_true]
  rw [W k ⟨#[49, 46, 48, 46, 48, 124, 124, 62, 50, 46, 48, 46, 48, 32, 42]⟩ _ (by decide) w6 (by omega)]
  simp only [Option.bind_some, mk_toList, beq_self_eq_true]
  obtain ⟨k, rfl, hk'⟩ := pred hk
  simp only [hoggetlaw05_spans.j0, if_true]
  rw [V k ⟨#[94, 49, 46, 50, 46, 51]⟩ ⟨#[49, 46, 50, 46, 52, 45, 97]⟩ _ (by decide) (by decide) v1 (by omega)]
  simp only [Option.bind_some, Bool.false_eq_true, if_false]
  rw [V k ⟨#[94, 49, 46, 50, 46, 51]⟩ ⟨#[49, 46, 57, 46, 48]⟩ _ (by decide) (by decide) v2 (by omega)]
  simp only [Option.bind_some, if_true]
  rw [V k ⟨#[62, 61, 49, 46, 50, 46, 51, 45, 97]⟩ ⟨#[49, 46, 50, 46, 51, 45, 98]⟩ _ (by decide) (by decide) v3 (by omega)]
  simp only [Option.bind_some, if_true]
  rw [W k ⟨#[49, 46, 48]⟩ _ (by decide) w7 (by omega)]
  simp only [Option.bind_some, mk_toList, if_true]
  rw [W k ⟨#[94, 57, 57, 57, 57, 57, 57, 46, 48, 46, 48]⟩ _ (by decide) w8 (by omega)]
  simp
end Go.Proofs.YtijooffpjfhidaaGreatDoor.Vp
end
section
namespace Go.Proofs.YtijooffpjfhidaaGreatDoor.Vp
open Go Go.RowKit Go.Proofs.YtijooffpjfhidaaGreatDoor.Txt Go.Proofs.YtijooffpjfhidaaGreatDoor.Trim Go.Proofs.YtijooffpjfhidaaGreatDoor.Num
theorem near_self (o : Int) (v : Ver) : ((dl v.2.2.2).isEmpty || nearB (o, v) v) = true := by
  unfold nearB
  cases (dl v.2.2.2).isEmpty <;> simp
theorem rightR_one (l : List Bd) : rightR [l] = rightA l := by
  unfold rightR
  simp
theorem holdsR_one (l : List Bd) (v : Ver) : holdsR [l] v = (rightA l && rightB v && letsA l v) := by
  unfold holdsR
  rw [rightR_one]
  simp
theorem holds_one {v w : Ver} (h : rightB v = true) (hw : rightB w = true) (o : Int) (h1 : 1 ≤ o) (h5 : o ≤ 5) (hp : (dl v.2.2.2).isEmpty = true ∨ w = v) : holdsR [[(o, w)]] v = holdsB (o, w) v := by
  have e : rightA [(o, w)] = true := by rw [rightA_def]; simp [boundOk, hw]; omega
  rw [holdsR_one, e, h]
  unfold letsA
  simp only [List.all_cons, List.all_nil, List.any_cons, List.any_nil, Bool.and_true, Bool.true_and, Bool.or_false]
  rcases hp with hp | rfl
  · rw [hp]; simp
  · rw [near_self]; simp
theorem holds_all {v : Ver} (h : rightB v = true) (hp : (dl v.2.2.2).isEmpty = true) : holdsR [[]] v = true := by
  rw [holdsR_one, h]
  unfold letsA
  rw [hp]; rfl
theorem holds_five (v w : Ver) : (holdsB (2, w) v != holdsB (5, w) v) = true ∧ (holdsB (3, w) v != holdsB (4, w) v) = true ∧ holdsB (1, w) v = (holdsB (3, w) v && holdsB (5, w) v) := by
  simp only [holdsB]
  generalize cmpT v w = c
  refine ⟨?_, ?_, ?_⟩
  · by_cases h : c < 0
    · have : ¬ c ≥ 0 := by omega
      simp [h, this]
    · have : c ≥ 0 := by omega
      simp [h, this]
  · by_cases h : c ≤ 0
    · have : ¬ c > 0 := by omega
      simp [h, this]
    · have : c > 0 := by omega
      simp [h, this]
  · by_cases h : c = 0
    · subst h; simp
    · by_cases h2 : c ≤ 0
      · have : ¬ c ≥ 0 := by omega
        simp [h, h2, this]
      · simp [h, h2]
end Go.Proofs.YtijooffpjfhidaaGreatDoor.Vp
end
section
namespace Go.Proofs.YtijooffpjfhidaaGreatDoor.Vp
open Go Go.RowKit Go.Proofs.YtijooffpjfhidaaGreatDoorW.PrintWords Go.Proofs.YtijooffpjfhidaaGreatDoor.Txt Go.Proofs.YtijooffpjfhidaaGreatDoor.Trim Go.Proofs.YtijooffpjfhidaaGreatDoor.Num Go.Proofs.YtijooffpjfhidaaGreatDoor.Seq Go.Proofs.YtijooffpjfhidaaGreatDoor.G
theorem SpanPlain (x y z : Int) (p : ByteArray) (a b c : Int) (q : ByteArray) (_ : p.size ≤ 140737488351232) (_ : q.size ≤ 140737488351232) : ∃ k, hoggetlaw05_SpanPlain.f k x y z p a b c q = some true := by
  obtain ⟨K, hK⟩ : ∃ K, K = 500000100 := ⟨_, rfl⟩
  refine ⟨K, ?_⟩
  unfold hoggetlaw05_SpanPlain.f
  by_cases c0 : 300 < (p.size : Int)
  · rw [if_pos c0]
  · rw [if_neg c0]
    by_cases c1 : 300 < (q.size : Int)
    · rw [if_pos c1]
    · rw [if_neg c1]
      have e1 := print_eq K (x, y, z, ⟨#[]⟩) (by show (ByteArray.mk #[]).size ≤ 140737488351232; decide) (by show (ByteArray.mk #[]).size + 10 < K; rw [hK]; decide)
      have e2 := print_eq K (a, b, c, q) (by show q.size ≤ _; omega) (by show q.size + 10 < K; omega)
      simp only at e1 e2
      rw [e1, e2, spans_eq K (by omega)]
      simp only [Option.bind_some, printP_ok, Bool.true_eq_false, if_false]
      by_cases hv : rightB (x, y, z, (⟨#[]⟩ : ByteArray)) = true
      · by_cases hw : rightB (a, b, c, q) = true
        · have hq : q.size ≤ 55 := right_sz hw
          have hp : (dl ((x, y, z, (⟨#[]⟩ : ByteArray)) : Ver).2.2.2).isEmpty = true := rfl
          have H : ∀ o : Int, 1 ≤ o → o ≤ 5 → span_Holds.f K [[(⟨o, ⟨a, b, c, q⟩⟩ : S45)]] x y z ⟨#[]⟩ = some (holdsB (o, (a, b, c, q)) (x, y, z, ⟨#[]⟩)) := fun o h1 h5 => by
            have h := pHolds05_eq K [[(⟨o, ⟨a, b, c, q⟩⟩ : S45)]] (x, y, z, ⟨#[]⟩) (fun l hl u hu => by simp at hl; subst hl; simp at hu; subst hu; show q.size ≤ _; omega) (fun l hl => by simp at hl; subst hl; simp) (by simp) (by show (ByteArray.mk #[]).size ≤ 1000000; decide) (by omega)
            have h2 := holds_one hv hw o h1 h5 (.inl hp)
            exact h.trans (congrArg some h2)
          have H0 : span_Holds.f K [[]] x y z ⟨#[]⟩ = some true := by
            have h := pHolds05_eq K [[]] (x, y, z, ⟨#[]⟩) (fun l hl u hu => by simp at hl; subst hl; simp at hu) (fun l hl => by simp at hl; subst hl; simp) (by simp) (by show (ByteArray.mk #[]).size ≤ 1000000; decide) (by omega)
            exact h.trans (congrArg some (holds_all hv hp))
          have h5 := holds_five (x, y, z, ⟨#[]⟩) (a, b, c, q)
          rw [hv, hw, H 1 (by omega) (by omega), H 2 (by omega) (by omega), H 3 (by omega) (by omega), H 4 (by omega) (by omega), H 5 (by omega) (by omega), H0]
          simp only [Option.bind_some, Bool.true_eq_false, if_false]
          rw [if_pos ⟨trivial, h5.1, h5.2.1, by rw [h5.2.2]; simp⟩]
        · have : rightB (a, b, c, q) = false := by simpa using hw
          rw [this, hv]; simp
      · have : rightB (x, y, z, (⟨#[]⟩ : ByteArray)) = false := by simpa using hv
        rw [this]; simp
end Go.Proofs.YtijooffpjfhidaaGreatDoor.Vp
end
section
namespace Go
variable {H : Type} {enc : TypeId × Value → H}
theorem returnsInHanded_and_shaped {a : Assume} {C : Checked} {os : Os} {f : FuncId} {fn : Func} {s : ChangeSpec} {conds : List PathCond} {apart fresh handsOn again : Bool} {X : World → Array Value → Prop}
    (hX : ∀ (w w' : World) (args : Array Value), w.heap = w'.heap → X w args → X w' args)
    (own : ownKnob C.prog.godebug = none) (started : os.Started) (noInit : C.prog.inits.idxOf? f = none) (hfn : C.prog.funcs[f]? = some fn)
    (witness : ∃ (w : World) (tape : Tape) (i : Input), w.os = os ∧ (w.forCall tape i).Shaped C.prog ∧ i.vars = [] ∧ Input.okWide C.prog (w.forCall tape i) .any w.heap.size f i ∧
      ((s.pre enc C.prog fn conds apart (w.forCall tape i).memory i.args ∧ X (w.forCall tape i).memory i.args) ∧ sizedMet enc C.prog fn (OpenSpec.ofChange s) apart (w.forCall tape i).memory i.args) ∧ a.holds C.prog (lone (Frame.enter C.prog f i.args .normal) [] (w.forCall tape i)))
    (contract : ∀ (W : World) (base : Nat) (args : Array Value) (ds gs : List (DataW H)) (before : List MemPlace),
      (∀ (j : Nat) t v, fn.params[j]? = some t → args[j]? = some v → Value.okWide C.prog W .any base t v) →
      DataW.Whole enc C.prog fn.params.toList s.vars apart W args.toList ds gs before →
      conds.all (PathCond.test C.prog ⟨fn.params.toList, ds, s.plain.varTypes C.prog, gs⟩) = true →
      (DataW.weightsEach C.prog (fn.params.toList ++ s.plain.varTypes C.prog) (ds ++ gs)).all (· ≤ reachBytes) = true → X W args → W.ShapedOpen C.prog →
      a.holds C.prog (lone (Frame.enter C.prog f args .normal) [] W) →
      Calls C.prog f args W fun e W' => ∃ v, e = .returned v ∧ s.post enc C.prog fn apart fresh handsOn again W args v W') :
    ReturnsInHanded a C os f .any (fun w args => (s.pre enc C.prog fn conds apart w args ∧ X w args) ∧ sizedMet enc C.prog fn (OpenSpec.ofChange s) apart w args) (s.post enc C.prog fn apart fresh handsOn again) := by
  refine returnsInHanded_of_calls own started noInit witness ?_
  intro w tape i _ hsh _ hok hpre hholds
  obtain ⟨_, _, _, fn', hfn', _, _, _, _, hval⟩ := hok
  have e : fn' = fn := Option.some.inj (hfn'.symm.trans hfn)
  subst e
  obtain ⟨⟨⟨ds, gs, before, hw, hc⟩, hx⟩, hz⟩ := hpre
  have hw' := DataW.Whole.of_heap (w' := w.forCall tape i) (by rfl) hw
  refine (contract (w.forCall tape i) w.heap.size i.args ds gs before hval hw' hc (hz.weights hw) (hX _ _ _ (by rfl) hx) hsh hholds).mono fun e W' ⟨v, he, hp⟩ => ?_
  subst he
  exact ChangeSpec.post_blind hp
end Go
namespace Go.Proofs.YtijooffpjfhidaaGreatDoor
open Go Go.RowKit
theorem pow_tab : (Rows.laid_internal_strconv_uint64pow10 : DataW Unit) = Lib.tabData .u64 Lib.pow10Tab := by kernel_rfl
theorem text_of {s : ByteArray} {l : List UInt8} (h : s.data.toList = l) : s = ⟨⟨l⟩⟩ := by
  subst h
  cases s with | mk d => cases d; rfl
set_option maxRecDepth 100000 in
theorem sign_of {enc : TypeId × Value → Unit} {W : World} {base : Nat} {sp : Nat → Bool} {held : Bool} {fuel : Nat} {cs : List Value} {x : DataW Unit × List MemPlace} {n : Int} {l : List UInt8}
    (h : DataW.trod enc Tryz.prog W base sp held fuel 57 cs = some x) (hx : x.1 = .agg [.lit (.int .i64 n), .lit (.string l)]) : cs = [.int .i64 n, .string ⟨⟨l⟩⟩] := by
  obtain ⟨xs, m, _, rfl, hl, hz, hf⟩ := DataW.trod_struct Tryz.underlying57 h
  rw [show Tryz.prog.cellsOf 57 = 2 by kernel_rfl] at hl
  match cs, hl, xs, hz with
  | [c0, c1], _, [y0, y1], _ =>
    have ci : Tryz.prog.cellsOf 43 = 1 := by kernel_rfl
    have cs : Tryz.prog.cellsOf 9 = 1 := by kernel_rfl
    have k0 : DataW.trod enc Tryz.prog W base sp held m 43 [c0] = some y0 := by simpa [ci] using hf 0 _ rfl
    have k1 : DataW.trod enc Tryz.prog W base sp held m 9 [c1] = some y1 := by simpa [cs] using hf 1 _ rfl
    obtain ⟨n0, e0, rfl, _⟩ := DataW.trod_int Tryz.underlying43 k0
    obtain ⟨s1, e1, rfl, _⟩ := DataW.trod_string Tryz.underlying9 k1
    simp only [List.map_cons, List.map_nil, DataW.agg.injEq, List.cons.injEq, DataW.lit.injEq, Lit.int.injEq, Lit.string.injEq, and_true, true_and] at hx e0 e1
    obtain ⟨rfl, hx⟩ := hx
    rw [e0, e1, text_of hx]
set_option maxRecDepth 100000 in
theorem signs_of {enc : TypeId × Value → Unit} {W : World} {base : Nat} {sp : Nat → Bool} {held : Bool} {fuel : Nat} {cs : List Value} {p : List MemPlace}
    (h : DataW.trod enc Tryz.prog W base sp held fuel 58 cs = some (Rows.laid_hogget_span_signs, p)) :
    cs = [.int .i64 3, .string ⟨#[60, 61]⟩, .int .i64 5, .string ⟨#[62, 61]⟩, .int .i64 2, .string ⟨#[60]⟩, .int .i64 4, .string ⟨#[62]⟩, .int .i64 1, .string ⟨#[61]⟩] := by
  obtain ⟨xs, m, _, hx, hl, hz, hf⟩ := DataW.trod_array Tryz.underlying58 h
  rw [show Tryz.prog.cellsOf 58 = 10 by kernel_rfl] at hl
  have hx1 := (Prod.mk.inj hx).1
  unfold Rows.laid_hogget_span_signs at hx1
  have c2 : Tryz.prog.cellsOf 57 = 2 := by kernel_rfl
  match xs, hz with
  | [y0, y1, y2, y3, y4], _ =>
    simp only [List.map_cons, List.map_nil, DataW.agg.injEq, List.cons.injEq, and_true] at hx1
    obtain ⟨e0, e1, e2, e3, e4⟩ := hx1
    have f0 := sign_of (by simpa [c2] using hf 0 (by omega)) e0.symm
    have f1 := sign_of (by simpa [c2] using hf 1 (by omega)) e1.symm
    have f2 := sign_of (by simpa [c2] using hf 2 (by omega)) e2.symm
    have f3 := sign_of (by simpa [c2] using hf 3 (by omega)) e3.symm
    have f4 := sign_of (by simpa [c2] using hf 4 (by omega)) e4.symm
    match cs, hl with
    | [a0, a1, a2, a3, a4, a5, a6, a7, a8, a9], _ =>
      simp only [List.drop_zero, List.drop_succ_cons, List.take_succ_cons, List.take_zero, List.cons.injEq, and_true] at f0 f1 f2 f3 f4
      obtain ⟨rfl, rfl⟩ := f0
      obtain ⟨rfl, rfl⟩ := f1
      obtain ⟨rfl, rfl⟩ := f2
      obtain ⟨rfl, rfl⟩ := f3
      obtain ⟨rfl, rfl⟩ := f4
      rfl
theorem LD_of {l : List (String × DataW Unit)} {W : World} (h : laidMetH Tryz.prog l W) (hsh : W.ShapedOpen Tryz.prog) (hn : (l.all fun x => x.2.handleName?.isNone) = true)
    (h1 : ("internal/strconv.uint64pow10", Rows.laid_internal_strconv_uint64pow10) ∈ l) (h2 : ("strconv.ErrSyntax", Rows.laid_strconv_ErrSyntax) ∈ l) (h3 : ("strconv.ErrRange", Rows.laid_strconv_ErrRange) ∈ l) (h4 : ("hogget/span.signs", Rows.laid_hogget_span_signs) ∈ l) : LD W := by
  rw [MakeChecks.laidMetH_plain _ _ _ hn] at h
  refine ⟨?_, ?_, ?_, ?_, ?_⟩
  · obtain ⟨g, t, cs, fuel, p, hg, ht, hv, hd⟩ := Lib.laidMet.reads h h1
    obtain rfl := Option.some.inj ((show Tryz.prog.globalNamed "internal/strconv.uint64pow10" = some 4 by kernel_rfl).symm.trans hg)
    obtain rfl := Option.some.inj ((show (Tryz.prog.globals[4]?).map (·.type) = some 137 by kernel_rfl).symm.trans ht)
    rw [pow_tab] at hd
    unfold Lib.TabIs
    rw [hv, ← Lib.cells_of_tab Tryz.underlying137 Tryz.underlying115 (by kernel_rfl) (by kernel_rfl) hd]
  · obtain ⟨g, t, cs, fuel, p, hg, ht, hv, hd⟩ := Lib.laidMet.reads h h2
    obtain rfl := Option.some.inj ((show Tryz.prog.globalNamed "strconv.ErrSyntax" = some 5 by kernel_rfl).symm.trans hg)
    obtain rfl := Option.some.inj ((show (Tryz.prog.globals[5]?).map (·.type) = some 81 by kernel_rfl).symm.trans ht)
    obtain ⟨_, u, v, hcs, _⟩ := iface_of_trod Tryz.underlying81 hd
    exact ⟨u, v, by rw [hv]; exact congrArg some (Array.toList_inj.1 hcs)⟩
  · obtain ⟨g, t, cs, fuel, p, hg, ht, hv, hd⟩ := Lib.laidMet.reads h h3
    obtain rfl := Option.some.inj ((show Tryz.prog.globalNamed "strconv.ErrRange" = some 6 by kernel_rfl).symm.trans hg)
    obtain rfl := Option.some.inj ((show (Tryz.prog.globals[6]?).map (·.type) = some 81 by kernel_rfl).symm.trans ht)
    obtain ⟨_, u, v, hcs, _⟩ := iface_of_trod Tryz.underlying81 hd
    exact ⟨u, v, by rw [hv]; exact congrArg some (Array.toList_inj.1 hcs)⟩
  · exact cell_of_shapedOpen_int (g := 3) (t := 3) hsh (of_decide_eq_true (by kernel_rfl)) (zero := #[.int .i64 0]) (by kernel_rfl) rfl (by kernel_rfl) (by kernel_rfl) Tryz.underlying3
  · obtain ⟨g, t, cs, fuel, p, hg, ht, hv, hd⟩ := Lib.laidMet.reads h h4
    obtain rfl := Option.some.inj ((show Tryz.prog.globalNamed "hogget/span.signs" = some 0 by kernel_rfl).symm.trans hg)
    obtain rfl := Option.some.inj ((show (Tryz.prog.globals[0]?).map (·.type) = some 58 by kernel_rfl).symm.trans ht)
    have hcs := signs_of hd
    exact hv.trans (congrArg some (Array.toList_inj.1 hcs))
end Go.Proofs.YtijooffpjfhidaaGreatDoor
end
section
namespace Go.Proofs.YtijooffpjfhidaaGreatDoor.Row
open Go Go.RowKit Go.ChangeShapes Go.WideShapes Go.ChangeAt
open Go.ChangeMaps (open_string shut_string)
set_option maxRecDepth 100000 in
theorem open_ver {H : Type} {enc : TypeId × Value → H} {W : World} {base b0 : Nat} {sp : Nat → Bool} {held : Bool} {r : Reach} {v : Value} {d : DataW H} {p : List MemPlace}
    (hv : Value.okWide Tryz.prog W r b0 35 v) (h : DataW.Trod enc Tryz.prog W base sp held 35 v d p) :
    ∃ (x y z : Int) (s : ByteArray), v = .agg #[.int .i64 x, .int .i64 y, .int .i64 z, .string s] ∧ p = [] ∧ d = .agg [.lit (.int .i64 x), .lit (.int .i64 y), .lit (.int .i64 z), .lit (.string s.data.toList)] := by
  obtain ⟨v0, v1, v2, v3, y0, y1, y2, y3, n, rfl, rfl, rfl, h0, h1, h2, h3⟩ := Joins.open_agg4 Tryz.underlying35 (by kernel_rfl) (by kernel_rfl) hv h
  obtain ⟨x, e0, rfl, _⟩ := DataW.trod_int Tryz.underlying3 h0
  obtain ⟨y, e1, rfl, _⟩ := DataW.trod_int Tryz.underlying3 h1
  obtain ⟨z, e2, rfl, _⟩ := DataW.trod_int Tryz.underlying3 h2
  obtain ⟨s, e3, rfl, _⟩ := DataW.trod_string Tryz.underlying9 h3
  simp only [List.cons.injEq, and_true] at e0 e1 e2 e3
  subst e0 e1 e2 e3
  exact ⟨x, y, z, s, rfl, rfl, rfl⟩
theorem ver_sized {H : Type} {ts : List TypeId} {ds : List (DataW H)} (h : (DataW.weightsEach Tryz.prog ts ds).all (· ≤ reachBytes) = true) {j : Nat} {x y z : Int} {l : List UInt8} (ht : ts[j]? = some 35)
    (hd : ds[j]? = some (.agg [.lit (.int .i64 x), .lit (.int .i64 y), .lit (.int .i64 z), .lit (.string l)])) : l.length ≤ reachBytes := by
  have := List.all_eq_true.1 h _ (DataW.weights_mem_each ht hd l.length (by simp [DataW.weights, Tryz.underlying35, DataW.weightsEach]))
  simpa using this
end Go.Proofs.YtijooffpjfhidaaGreatDoor.Row
end
