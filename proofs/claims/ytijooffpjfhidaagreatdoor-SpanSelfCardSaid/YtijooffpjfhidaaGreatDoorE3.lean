/- Texts that the claims' laws stand on, put together by a program of this session (wip/prune.py): printed functions, their walks, and plain lemmas. -/
import Derived.Test.YtijooffpjfhidaaGreatDoorE2
set_option linter.unusedVariables false
set_option linter.unusedSimpArgs false
section
namespace Go.Proofs.YtijooffpjfhidaaGreatDoor.G
open Go.RowKit Go.Proofs.YtijooffpjfhidaaGreatDoorW.PrintWords Go.Proofs.YtijooffpjfhidaaGreatDoorW.PrintLast Go.Proofs.YtijooffpjfhidaaGreatDoorW.PrintMore
attribute [local go_sem] Go.Proofs.YtijooffpjfhidaaGreatDoor.Aid.gtr_string max2_int min2_int max_two min_two max_three min_three max_four min_four
set_option linter.unusedVariables false
set_option linter.unusedSimpArgs false
def span_Parse.sg (s : ByteArray) : List (Int × ByteArray) → Int → ByteArray → Option (Int × ByteArray)
  | [], op, rest => some (op, rest)
  | x :: xs, op, rest => (strings_CutPrefix.f s x.2).bind fun c => if c.2 = true then (if rest = s then span_Parse.sg s xs x.1 c.1 else span_Parse.sg s xs op rest) else span_Parse.sg s xs op rest
def span_Parse.wide (s : ByteArray) (t : Bool) : Bool := t || decide (bt s 0 = 94)
def span_Parse.word (k : Nat) (s : ByteArray) : Option (List S45 × Bool) :=
  if s.toList.isEmpty = true then some ([], true) else if s = ⟨#[42]⟩ then some ([], true) else
  (strings_HasPrefix.f s ⟨#[126]⟩).bind fun t =>
    (span_Parse.sg s span_Print.signs (if span_Parse.wide s t = true then 5 else 1) (if span_Parse.wide s t = true then s.extract 1 s.size else s)).bind fun o => (version_Parse.f k o.2).bind fun v => if v.2.2.2.2 = false then some ([], false) else
      if span_Parse.wide s t = true then (span_above.f v.1 v.2.1 v.2.2.1 v.2.2.2.1 t).bind fun n => some ([⟨o.1, ⟨v.1, v.2.1, v.2.2.1, v.2.2.2.1⟩⟩, ⟨2, ⟨n.1, n.2.1, n.2.2.1, n.2.2.2⟩⟩], true)
      else some ([⟨o.1, ⟨v.1, v.2.1, v.2.2.1, v.2.2.2.1⟩⟩], true)
def span_Parse.read (k : Nat) : List ByteArray → List S45 → Option (List S45 × Bool)
  | [], acc => some (acc, true)
  | s :: ws, acc => if acc.length < 1000000 then (span_Parse.word k s).bind fun o => if o.2 = false then some ([], false) else span_Parse.read k ws (acc ++ o.1) else none
def span_Parse.go (k : Nat) : List ByteArray → List (List S45) → Option (List (List S45) × Bool)
  | [], all => (span_right.f k all).bind fun g => if g = true then some (all, true) else some ([], false)
  | p :: ps, all => if p.size ≤ 140737488355328 then (if all.length < 1000000 then (span_Parse.read k (Go.Proofs.YtijooffpjfhidaaGreatDoor.Seq.cutsL 32 p) []).bind fun o => if o.2 = false then some ([], false) else span_Parse.go k ps (all ++ [o.1]) else none) else none
def span_Parse.f (k : Nat) (a0 : ByteArray) : Option (List (List S45) × Bool) := if a0.size ≤ 4294967280 then span_Parse.go k (Go.Proofs.YtijooffpjfhidaaGreatDoor.Seq.cutsD a0) [] else none
section
open Lib Go.Proofs.YtijooffpjfhidaaGreatDoor.Rng Go.Proofs.YtijooffpjfhidaaGreatDoor.Seq Go.Proofs.YtijooffpjfhidaaGreatDoor.App
theorem span_Parse.fh {acc : List S45} {W w1 : World} {B base : Nat} {u v1 : Value} {o : Obj} (hb : Boxed W B 38 u) (hR : Kd.R k45 45 W base (fun _ => True) u acc)
    (hg : (W.alloc o).grownBy w1 u.ownBlock) (hbase : base ≤ W.heap.size) : Fh 45 B base W (w1.setCell ⟨B, 0, none⟩ v1) := by
  have h1 := hg.size
  rw [World.size_alloc] at h1
  have hown := (Kd.R_own hR)
  have hat : ∀ k, k < W.heap.size → k ≠ B → some k ≠ u.ownBlock → (w1.setCell ⟨B, 0, none⟩ v1).heap[k]? = W.heap[k]? := fun k hk hB hn =>
    (Below.heap_setCell w1 ⟨B, 0, none⟩ v1 k hB).trans ((hg.block k (by rw [World.size_alloc]; omega) hn).trans (Below.heap_alloc W o k hk))
  refine ⟨hg.os, hg.tape, hg.output, ?_, fun k hk hB hl => hat k hl hB (fun e => ?_), fun k o' hB ho hr => (hat k (Array.getElem?_eq_some_iff.1 ho).1 hB (fun e => ?_)).trans ho⟩
  · exact Nat.le_trans (by omega) (KeepsWalks.setCell w1 ⟨B, 0, none⟩ v1).size
  · have := Kd.R_base hR k e.symm; omega
  · obtain ⟨_, h2⟩ := hown
    obtain ⟨cells, hc⟩ := own_typed h2 k e.symm
    rw [hc] at ho; cases ho; simp [isRow] at hr
set_option maxRecDepth 100000 in
set_option maxHeartbeats 4000000 in
theorem span_Parse.hand (op x y z : Int) (s : ByteArray) (acc : List S45) (W : World) (B base : Nat) (u : Value) (hb : Boxed W B 38 u) (hR : Kd.R k45 45 W base (fun _ => True) u acc)
    (hB : B < base) (hbase : base ≤ W.heap.size) (hl : acc.length < 2000000) :
    Calls Tryz.prog 25 #[.int .i64 op, .agg #[.int .i64 x, .int .i64 y, .int .i64 z, .string s], .pointer (some ⟨B, 0, none⟩)] W fun e w' => (∃ q, e = .returned q) ∧
      (∃ u', Boxed w' B 38 u' ∧ Kd.R k45 45 w' base (fun _ => True) u' (acc ++ [⟨op, ⟨x, y, z, s⟩⟩])) ∧ Fh 45 B base W w' := by
  obtain ⟨A, c, rfl⟩ := Kd.R_slice hR
  have hc := hb.cell
  have hf := hb.frozen
  have hlt := hb.lt
  have HB := Lib.hid hb
  have HR := Lib.hid hR
  have LM := Lib.hid hl
  have hu := Tryz.underlying35
  clear hb hR hl
  go_enter Tryz.func25, Tryz.ntmps25
  go_wp2_with (first | ((with_reducible refine gate_builtin (b := .append) (xs := #[.tmp 5, .tmp 9]) rfl ?_); at_builtin; refine Kd.R_append k45 (w0 := W) base ?a1 (.tmp 5) (.tmp 9) 38 45 (.agg #[(.int .i64 0), (.int .i64 0), (.int .i64 0), (.int .i64 0), (.string ⟨#[]⟩)]) 48 ?a2 ?a3 ?a4 ?a5 ?a6 ?a7 (.slice A acc.length c) acc ⟨op, ⟨x, y, z, s⟩⟩ [.int .i64 op, .int .i64 x, .int .i64 y, .int .i64 z, .string s] (fun _ => True) (fun _ => False) ?aY ?aX ?aP ?aK ?aF ?aO ?aB ?aS ?aL ?_; (case a1 => rfl); (case a2 => rfl); (case a3 => exact Tryz.underlying38); (case a4 => exact info45); (case a5 => rfl); (case a6 => decide); (case a7 => decide); (case aK => exact fun _ hk => hk.elim); (case aY => rfl); (case aX => first | rfl | (rw [World.size_alloc]; rfl)); (case aP => exact k45_mkM _ _ _ _); (case aB => exact (Below.refl _ W).alloc hbase _); (case aF => exact (fun _ _ => trivial)); (case aO => exact Kd.R_alloc HR.out _); (case aS => rw [World.size_alloc]; omega); (case aL => have := LM.out; omega); intro v1 w1 ho hb1 hg hat; have hne : some B ≠ (Value.slice A acc.length c).ownBlock := Kd.R_ne HR.out HB.out (by decide); have hbw := (HB.out.alloc (Obj.cells #[.int .i64 x, .int .i64 y, .int .i64 z, .string s] 35)).kept hg hne; have HW := Lib.hid hbw; have hc1 := hbw.cell; have hf1 := hbw.frozen; obtain ⟨A1, c1, rfl⟩ := Kd.R_slice ho; have HO := Lib.hid ho; have HG := Lib.hid hg; have HNE := Lib.hid hne; clear ho hb1 hg hat hne hbw))
  go_end0
  have hO := HO.out
  rw [List.length_append, List.length_singleton] at hO
  refine ⟨⟨_, rfl⟩, ⟨_, HW.out.set _, Kd.R_set hO HW.out (by decide) 0 _⟩, span_Parse.fh HB.out HR.out HG.out hbase⟩
theorem span_Parse.seqW2 (s sep : ByteArray) (w : World) (o1 o2 : Obj) (N : Nat) (hN : w.heap.size = N) (W0 : World) (h : seqW s sep ((w.alloc o1).alloc o2) = W0) :
    W0.heap.size = N + 5 ∧ W0.heap[N]? = some o1 ∧ W0.heap[N + 1]? = some o2 ∧ Boxed W0 (N + 2) 9 (.string s) ∧ Boxed W0 (N + 2 + 1) 9 (.string sep) ∧ Boxed W0 (N + 2 + 2) 3 (.int .i64 0) ∧ Below N w W0 := by
  subst h
  unfold seqW Boxed
  simp only [alloc_at, World.size_alloc, hN]
  refine ⟨trivial, ?_, ?_, ?_, ?_, ?_, ?_⟩
  · rw [if_neg (by omega), if_neg (by omega), if_neg (by omega), if_neg (by omega), if_pos trivial]
  · rw [if_neg (by omega), if_neg (by omega), if_neg (by omega), if_pos trivial]
  · rw [if_neg (by omega), if_neg (by omega), if_pos trivial]
  · rw [if_neg (by omega), if_pos trivial]
  · rw [if_pos trivial]
  · subst hN
    exact (((((Below.refl _ w).alloc (Nat.le_refl _) _).alloc (by simp) _).alloc (by simp; omega) _).alloc (by simp; omega) _).alloc (by simp; omega) _
theorem span_Parse.same {k : Nat} {bs acc r : List S45} {okw g : Bool} {ws : List ByteArray} {A B C : Prop} (h : (some ([], true) : Option (List S45 × Bool)) = some (bs, okw)) (h2 : (if okw = false then some ([], false) else span_Parse.read k ws (acc ++ bs)) = some (r, g))
    (h3 : A ∧ B ∧ (span_Parse.read k ws acc = some (r, g) → C)) : A ∧ B ∧ C := by
  obtain ⟨rfl, rfl⟩ := Prod.mk.inj (Option.some.inj h)
  rw [if_neg (by decide), List.append_nil] at h2
  exact ⟨h3.1, h3.2.1, h3.2.2 h2⟩
attribute [local go_sem] Oper.semAt_some span_Print.idx0 span_Print.idx1 span_Print.idx2 span_Print.idx3 span_Print.idx4
theorem span_Parse.after {B N : Nat} {w W X w8 W0 : World} {hv : Value} {cs : Array Value} (hBN : B < w.heap.size) (hN : w.heap.size = N) (hs0 : W0.heap.size = N + 5)
    (hx : Boxed (X.alloc (.cells cs 35)) N 52 hv ∧ Boxed (X.alloc (.cells cs 35)) (N + 1) 4 (.bool false) ∧ Fr B w (X.alloc (.cells cs 35)) ∧ KeepsFrom W0.heap.size W (X.alloc (.cells cs 35)) ∧ ((X.alloc (.cells cs 35)).heap[N + 2]? = W.heap[N + 2]? ∧ (X.alloc (.cells cs 35)).heap[N + 2 + 1]? = W.heap[N + 2 + 1]? ∧ (X.alloc (.cells cs 35)).heap[N + 2 + 2]? = W.heap[N + 2 + 2]?) ∧ W.heap.size ≤ (X.alloc (.cells cs 35)).heap.size)
    (hW : N + 6 ≤ W.heap.size) (hX : W.heap.size ≤ X.heap.size)
    (h : Fh 45 B (N + 5) (X.alloc (.cells cs 35)) w8) :
    Boxed w8 N 52 hv ∧ Boxed w8 (N + 1) 4 (.bool false) ∧ Fr B w w8 ∧ KeepsFrom W0.heap.size W w8 ∧ (w8.heap[N + 2]? = W.heap[N + 2]? ∧ w8.heap[N + 2 + 1]? = W.heap[N + 2 + 1]? ∧ w8.heap[N + 2 + 2]? = W.heap[N + 2 + 2]?) ∧ N + 6 ≤ w8.heap.size ∧ w8.heap[X.heap.size]? = some (.cells cs 35 (0, 0)) := by
  obtain ⟨x3, x4, x5, x6, x7, x8⟩ := hx
  refine ⟨h.boxed x3 (by omega) (by decide), h.boxed x4 (by omega) (by decide), Fh.fr x5 h (by omega), x6.trans (h.keeps (by omega)), ⟨(h.low _ (by omega) (by omega) (by omega)).trans x7.1, (h.low _ (by omega) (by omega) (by omega)).trans x7.2.1, (h.low _ (by omega) (by omega) (by omega)).trans x7.2.2⟩, Nat.le_trans (by omega) h.size, h.same _ _ (by omega) (World.alloc_heap_new X _) rfl⟩
theorem span_Parse.after2 {B N : Nat} {w W w8 w9 w10 W0 : World} {hv : Value} {P : Prop} (hBN : B < w.heap.size) (hN : w.heap.size = N) (hs0 : W0.heap.size = N + 5)
    (hx : Boxed w8 N 52 hv ∧ Boxed w8 (N + 1) 4 (.bool false) ∧ Fr B w w8 ∧ KeepsFrom W0.heap.size W w8 ∧ (w8.heap[N + 2]? = W.heap[N + 2]? ∧ w8.heap[N + 2 + 1]? = W.heap[N + 2 + 1]? ∧ w8.heap[N + 2 + 2]? = W.heap[N + 2 + 2]?) ∧ N + 6 ≤ w8.heap.size ∧ P)
    (hb : Below w8.heap.size w8 w9) (h : Fh 45 B (N + 5) w9 w10) :
    Boxed w10 N 52 hv ∧ Boxed w10 (N + 1) 4 (.bool false) ∧ Fr B w w10 ∧ KeepsFrom W0.heap.size W w10 ∧ (w10.heap[N + 2]? = W.heap[N + 2]? ∧ w10.heap[N + 2 + 1]? = W.heap[N + 2 + 1]? ∧ w10.heap[N + 2 + 2]? = W.heap[N + 2 + 2]?) := by
  obtain ⟨x3, x4, x5, x6, x7, x8, _⟩ := hx
  have hz := hb.size
  have hk : KeepsFrom W0.heap.size w8 w9 := ⟨hb.size, fun k o _ hk _ => (hb.block k (Array.getElem?_eq_some_iff.1 hk).1).trans hk⟩
  have hat : ∀ k, k < N + 5 → k ≠ B → w10.heap[k]? = w8.heap[k]? := fun k h1 h2 => (h.low _ h1 h2 (by omega)).trans (hb.block k (by omega))
  exact ⟨h.boxed (boxed_same (hb.block _ (by omega)) x3) (by omega) (by decide), h.boxed (boxed_same (hb.block _ (by omega)) x4) (by omega) (by decide), Fh.fr (x5.step hb x5.size) h (by omega), x6.trans (hk.trans (h.keeps (by omega))), ⟨(hat _ (by omega) (by omega)).trans x7.1, (hat _ (by omega) (by omega)).trans x7.2.1, (hat _ (by omega) (by omega)).trans x7.2.2⟩⟩
theorem span_Parse.fin {k : Nat} {bs bs' acc acc' r : List S45} {g : Bool} {ws : List ByteArray} {C : Prop} (h : bs' = bs) (h2 : (if true = false then some ([], false) else span_Parse.read k ws (acc ++ bs)) = some (r, g))
    (he : acc ++ bs' = acc') (h3 : span_Parse.read k ws acc' = some (r, g) → C) : C := by
  subst h
  rw [if_neg (by decide), he] at h2
  exact h3 h2
theorem span_Parse.nth (n : Nat) (hn : n < 5) : ∃ y1 y2, span_Print.signs.drop n = (y1, y2) :: span_Print.signs.drop (n + 1) ∧ ∀ w, (Instr.index 58 (.agg #[.int .i64 3, .string ⟨#[60, 61]⟩, .int .i64 5, .string ⟨#[62, 61]⟩, .int .i64 2, .string ⟨#[60]⟩, .int .i64 4, .string ⟨#[62]⟩, .int .i64 1, .string ⟨#[61]⟩]) (.int .i64 (n : Nat))).run Tryz.prog w = .ok (.agg #[.int .i64 y1, .string y2]) w := by
  obtain rfl | rfl | rfl | rfl | rfl : n = 0 ∨ n = 1 ∨ n = 2 ∨ n = 3 ∨ n = 4 := by omega
  · exact ⟨_, _, rfl, span_Print.idx0⟩
  · exact ⟨_, _, rfl, span_Print.idx1⟩
  · exact ⟨_, _, rfl, span_Print.idx2⟩
  · exact ⟨_, _, rfl, span_Print.idx3⟩
  · exact ⟨_, _, rfl, span_Print.idx4⟩
set_option maxRecDepth 100000 in
set_option maxHeartbeats 8000000 in
theorem span_Parse.read_calls (k : Nat) (s : ByteArray) (r : List S45) (g : Bool) (w w0 : World) (B : Nat) (h : span_Parse.read k (cutsL 32 s) [] = some (r, g)) (hs : s.size ≤ 140737488355328) (hb : Boxed w B 38 (.slice none 0 0))
    (hw0 : Below w0.heap.size w0 w) (h0 : w0.heap.size ≤ B) (hLD : LD w0) :
    Calls Tryz.prog 24 #[.string s, .func (.func 25) #[] #[.pointer (some ⟨B, 0, none⟩)]] w fun e w' => e = .returned (.bool g) ∧ (∃ u, Boxed w' B 38 u ∧ (g = true → Kd.R k45 45 w' w.heap.size (fun _ => True) u r)) ∧ Fr B w w' := by
  have hF : ∀ k, Fence.wide.fn k := fun _ => trivial
  have hD : Fence.wide.depth.isSome = false := rfl
  have hu := Tryz.underlying35
  refine (callsIn_wide (n := 6)).1 ?_
  refine callsIn_of_wp_marks Tryz.func24 rfl trivial ?_ rfl
  simp only [Tryz.ntmps24, List.size_toArray, List.length_cons, List.length_nil, Nat.reduceAdd, Nat.reduceSub, Array.replicate_succ, Array.replicate_zero, List.push_toArray, List.append_toArray, List.nil_append, List.cons_append]
  have HB := Lib.hid hb
  have H := Lib.hid h
  have HW0 := Lib.hid hw0
  have HL := Lib.hid hLD
  have hBN := hb.lt
  clear hb h hw0 hLD
  gi_wp2_with (gi_at_call 23; refine (callsIn_wide.2 (callsIn_wide.1 (seq_calls _ _ _))).mono ?_; rintro e w' ⟨rfl, rfl⟩)
  obtain ⟨L, hL⟩ : ∃ L, cutsL 32 s = L := ⟨_, rfl⟩
  obtain ⟨N, hN⟩ : ∃ N, w.heap.size = N := ⟨_, rfl⟩
  obtain ⟨W0, hW0⟩ : ∃ W0, seqW s ⟨#[32]⟩ ((w.alloc (.cells #[.func (.func 25) #[] #[.pointer (some ⟨B, 0, none⟩)]] 52)).alloc (.cells #[.bool false] 4)) = W0 := ⟨_, rfl⟩
  obtain ⟨hs0, b0, b1, b2, b3, b4, hB0⟩ := span_Parse.seqW2 _ _ w _ _ N hN W0 hW0
  have hN' : N ≤ w.heap.size := by omega
  rw [hW0, hN]
  clear hW0
  refine wpIn_iter (gf := 67) (lb := #[.pointer (some ⟨N + 1 + 1 + 1, 0, none⟩), .pointer (some ⟨N + 1 + 1, 0, none⟩), .pointer (some ⟨N + 1 + 1 + 2, 0, none⟩)]) rfl (enters_of Tryz.func67 (by kernel_rfl) rfl)
    (Bs := fun r => r = N + 2) (Kp := fun X Y => Y.heap[N + 2]? = X.heap[N + 2]? ∧ Y.heap[N + 2 + 1]? = X.heap[N + 2 + 1]? ∧ Y.heap[N + 2 + 2]? = X.heap[N + 2 + 2]?) (xs := L.map encS)
    (fun W hW => by rw [← hL]; exact seq1_iter s 32 (N + 2) _ W hs (boxed_same (hW.block _ (by omega)) b2) (boxed_same (hW.block _ (by omega)) b3) (boxed_same (hW.block _ (by omega)) b4) (fun _ _ h => h))
    (fun r h => by omega) (fun h k => ⟨k.1.trans h.1, k.2.1.trans h.2.1, k.2.2.trans h.2.2⟩)
    (fun W l o o' hl ho _ => ⟨World.putObj_heap_other (by omega), World.putObj_heap_other (by omega), World.putObj_heap_other (by omega)⟩)
    (fun x hx => by obtain ⟨s, _, rfl⟩ := List.mem_map.1 hx; rfl)
    (fun i W => (∃ u acc, Boxed W B 38 u ∧ Kd.R k45 45 W (N + 5) (fun _ => True) u acc ∧ Hid (span_Parse.read k (L.drop i) acc = some (r, g))) ∧ Boxed W N 52 (.func (.func 25) #[] #[.pointer (some ⟨B, 0, none⟩)]) ∧ Boxed W (N + 1) 4 (.bool false) ∧ Fr B w W)
    (fun c W => c = .ret ∧ (∃ u, Boxed W B 38 u) ∧ Boxed W (N + 1) 4 (.bool false) ∧ Hid (g = false) ∧ Fr B w W)
    ((OwnC.ex fun u => OwnC.ex fun acc => (ownC_boxed (by omega)).and ((ownC_R (by intro r hr; omega)).and (ownC_pure _))).and ((ownC_boxed (by omega)).and ((ownC_boxed (by omega)).and (ownC_fr (by omega) (by intro r hr; omega)))))
    (fun c => (ownC_pure _).and ((OwnC.ex fun u => ownC_boxed (by omega)).and ((ownC_boxed (by omega)).and ((ownC_pure _).and (ownC_fr (by omega) (by intro r hr; omega))))))
    ⟨⟨_, [], boxed_same (hB0.block _ (by omega)) HB.out, Kd.R_nil _ _ _ _ _, Lib.hid (by rw [← hL]; exact H.out)⟩, b0, b1, Fr.of_below (hN.symm ▸ hB0)⟩
    (fun i a' _ => ∃ x, L[i]? = some x ∧ a' = { tmps := #[.string s, .func (.func 25) #[] #[.pointer (some ⟨B, 0, none⟩)], undef, .pointer (some ⟨N, 0, none⟩), .pointer (some ⟨N + 1, 0, none⟩), .string x, undef, undef, undef, undef, undef, undef, undef, undef, undef, undef, .string s, .func (.func 67) #[] #[.pointer (some ⟨N + 1 + 1 + 1, 0, none⟩), .pointer (some ⟨N + 1 + 1, 0, none⟩), .pointer (some ⟨N + 1 + 1 + 2, 0, none⟩)], .string x, undef, undef, undef, undef, undef, undef, undef, undef, undef, undef, undef, undef, undef, undef, undef, undef, undef, undef, undef, undef, undef, undef, undef, undef, undef, undef, undef, undef, undef, undef, undef, undef, undef, undef, undef, undef, undef, undef, undef, undef, undef, undef, undef, undef, undef, undef, undef, undef, undef, undef, undef, undef, undef, undef, undef, undef], defers := [] })
    (fun i a' s W W' row hs hg hr => hs) ?assign ?body ?done ?stop
  case assign =>
    intro l i x W K hx _ hK
    rw [List.getElem?_map] at hx
    obtain ⟨x0, hs, rfl⟩ := Option.map_eq_some_iff.1 hx
    unfold encS
    gi_wp2
    refine hK _ _ (KeepsFrom.refl _ _) ⟨rfl, rfl, rfl⟩ (by assumption) ⟨x0, hs, rfl⟩
  case body =>
    rintro l i x a' W hl ⟨rr, hrr⟩ hx ⟨⟨u, acc, hu1, hR, HG⟩, hbN, hb1, hFr⟩ ⟨x0, hx0, rfl⟩
    have hWs : N + 6 ≤ W.heap.size := by have := (Array.getElem?_eq_some_iff.1 hrr).1; omega
    have hdrop : L.drop i = x0 :: L.drop (i + 1) := by
      rw [List.drop_eq_getElem_cons (List.getElem?_eq_some_iff.1 hx0).1]
      rw [(List.getElem?_eq_some_iff.1 hx0).2]
    have hg := HG.out
    rw [hdrop] at hg
    simp only [span_Parse.read] at hg
    split at hg
    case isFalse => cases hg
    rename_i hacc
    obtain ⟨⟨bs, okw⟩, hw, hg2⟩ := Option.bind_eq_some_iff.1 hg
    have HA := Lib.hid hacc
    have HGO := Lib.hid hg2
    have HU := Lib.hid hu1
    have HR := Lib.hid hR
    have HFR := Lib.hid hFr
    have HN := Lib.hid hbN
    have H1 := Lib.hid hb1
    have hc0 := hbN.cell
    have hc1 := hb1.cell
    have hf1 := hb1.frozen
    clear hg hdrop hx HG hacc hg2 hu1 hR hFr hbN hb1 hrr
    have HX : Hid (∀ X, Below W.heap.size W X → Boxed X B 38 u ∧ Kd.R k45 45 X (N + 5) (fun _ => True) u acc ∧ Boxed X N 52 (.func (.func 25) #[] #[.pointer (some ⟨B, 0, none⟩)]) ∧ Boxed X (N + 1) 4 (.bool false) ∧ Fr B w X ∧ KeepsFrom W0.heap.size W X ∧ (X.heap[N + 2]? = W.heap[N + 2]? ∧ X.heap[N + 2 + 1]? = W.heap[N + 2 + 1]? ∧ X.heap[N + 2 + 2]? = W.heap[N + 2 + 2]?) ∧ W.heap.size ≤ X.heap.size) := Lib.hid (fun X hX =>
      ⟨boxed_same (hX.block _ HU.out.lt) HU.out, Kd.R_below HR.out hX, boxed_same (hX.block _ (by omega)) HN.out, boxed_same (hX.block _ (by omega)) H1.out, HFR.out.step hX HFR.out.size, ⟨hX.size, fun k o _ hk _ => (hX.block k (Array.getElem?_eq_some_iff.1 hk).1).trans hk⟩, ⟨hX.block _ (by omega), hX.block _ (by omega), hX.block _ (by omega)⟩, hX.size⟩)
    unfold span_Parse.word at hw
    by_cases he : x0.toList.isEmpty = true
    · rw [if_pos he] at hw
      have HW := Lib.hid hw
      clear hw
      gi_wp2
      exact span_Parse.same HW.out HGO.out ⟨KeepsFrom.refl _ _, ⟨rfl, rfl, rfl⟩, fun h => ⟨⟨u, HU.out, acc, HR.out, Lib.hid h⟩, HN.out, H1.out, HFR.out⟩⟩
    · rw [if_neg he] at hw
      have he' : x0.toList.isEmpty = false := by simpa using he
      clear he
      by_cases hst : x0 = ⟨#[42]⟩
      · rw [if_pos hst] at hw
        have HW := Lib.hid hw
        have hq : x0.toList = [42] := by rw [hst, ByteArray.toList_eq]
        clear hw hst he'
        have he' : (x0.toList == [42]) = true := by rw [hq]; rfl
        gi_wp2
        all_goals exact span_Parse.same HW.out HGO.out ⟨KeepsFrom.refl _ _, ⟨rfl, rfl, rfl⟩, fun h => ⟨⟨u, HU.out, acc, HR.out, Lib.hid h⟩, HN.out, H1.out, HFR.out⟩⟩
      · rw [if_neg hst] at hw
        have hq : (x0.toList == [42]) = false := by
          rw [beq_eq_false_iff_ne, ByteArray.toList_eq]
          exact fun e => hst (Go.Proofs.YtijooffpjfhidaaGreatDoor.Txt.ext e)
        have hq2 : ¬ x0.toList = [42] := by simpa using hq
        clear hst
        obtain ⟨t, ht, hw⟩ := Option.bind_eq_some_iff.1 hw
        have CT := Lib.hid (fun W => strings_HasPrefix.calls x0 ⟨#[126]⟩ t W ht)
        have hsz : 0 < x0.size := by
          rw [ByteArray.toList_eq] at he'
          cases hd : x0.data.toList with
          | nil => rw [hd] at he'; cases he'
          | cons c r => have : x0.data.toList.length = x0.size := Array.length_toList; rw [hd] at this; simp at this; omega
        obtain ⟨c, hc⟩ : ∃ c, x0[0]'hsz = c := ⟨_, rfl⟩
        have hbt : bt x0 0 = (c.toNat : Int) := by unfold bt; rw [dif_pos (by simpa using hsz), ← hc]; rfl
        have hsz1 : (1 : Int) ≤ x0.size := by omega
        have hc1' : ∀ n, (W.drewN n).cell? ⟨N + 1, 0, none⟩ = some (.bool false) := fun n => hc1
        obtain ⟨wd, hwd⟩ : ∃ wd, span_Parse.wide x0 t = wd := ⟨_, rfl⟩
        rw [hwd] at hw
        obtain ⟨⟨o1, o2⟩, ho, hw⟩ := Option.bind_eq_some_iff.1 hw
        have HO := Lib.hid ho
        have HW := Lib.hid hw
        have HWD := Lib.hid hwd
        have HBT := Lib.hid hbt
        clear hw ho hwd ht hbt
        gi_upto_region 6 with (first | (gi_at_call 42; refine (callsIn_wide.2 (CT.out _)).mono ?_; rintro e w' ⟨rfl, ⟨nd, rfl⟩⟩) | fail)
        gi_cut [8] from 27 (fun s8 wc => s8 = .bool wd ∧ wc = W.drewN nd)
        case first =>
          have HWE := HWD.out
          unfold span_Parse.wide at HWE
          rw [HBT.out] at HWE
          cases t with
          | true =>
            obtain rfl : true = wd := HWE
            gi_wp2; gi_meet; exact ⟨rfl, rfl⟩
          | false =>
            have h94 : ((c.toNat : Int) == 94) = wd := HWE
            clear HWE
            cases wd
            all_goals (gi_wp2; gi_meet; exact ⟨rfl, rfl⟩)
        case rest =>
          obtain ⟨rfl, rfl⟩ := hcut
          gi_upto_if 34 with fail
          gi_cut [6, 9] from 35 (fun s6 s9 wc => ∃ (op : Int) (rest : ByteArray) (nd : Nat), s6 = .int .i64 op ∧ s9 = .string rest ∧ Hid (span_Parse.sg x0 span_Print.signs op rest = some (o1, o2)) ∧ wc = W.drewN nd)
          case first =>
            cases wd with
            | true =>
              gi_wp2
              gi_region
              all_goals (gi_wp2; gi_meet; exact ⟨_, _, _, rfl, rfl, Lib.hid HO.out, rfl⟩)
            | false => gi_wp2; gi_meet; exact ⟨_, _, _, rfl, rfl, Lib.hid HO.out, rfl⟩
          case rest =>
            clear HO
            obtain ⟨op0, rest0, nd', rfl, rfl, HO, rfl⟩ := hcut
            have HLW : Hid (∀ n, LD (W.drewN n)) := Lib.hid (fun n => HL.out.below ((HW0.out.trans (HFR.out.below h0 HW0.out.size)).trans (pw_below_drewN (Below.refl _ _) n)))
            obtain ⟨g0, g1, g2, g3, g4, g5, g6, g7, g8, g9⟩ := span_Print.sig (HLW.out nd')
            gi_wp2
            gi_loopg [6, 9, 38] 5 (fun kq v6 v9 v38 W1 => ∃ (n : Nat) (op : Int) (rest : ByteArray), v38 = .int .i64 (n : Nat) ∧ v6 = .int .i64 op ∧ v9 = .string rest ∧ Hid (kq = 5 - n ∧ n ≤ 5) ∧ Hid (span_Parse.sg x0 (span_Print.signs.drop n) op rest = some (o1, o2)) ∧ Hid (Below W.heap.size W W1))
            case atStart => exact ⟨0, op0, rest0, rfl, rfl, rfl, Lib.hid ⟨rfl, Nat.zero_le _⟩, Lib.hid HO.out, Lib.hid (pw_below_drewN (Below.refl _ _) _)⟩
            case round =>
              clear g0 g1 g2 g3 g4 g5 g6 g7 g8 g9 HO
              obtain ⟨n, op, rest, rfl, rfl, rfl, Hn, Hs, HBV⟩ := hrel
              by_cases hn : n < 5
              · obtain ⟨y1, y2, hy, hidx⟩ := span_Parse.nth n hn
                have hg := Hs.out
                rw [hy] at hg
                simp only [span_Parse.sg] at hg
                obtain ⟨⟨cu, okc⟩, hcp, hg⟩ := Option.bind_eq_some_iff.1 hg
                have CC := Lib.hid (fun W => strings_CutPrefix.calls x0 y2 cu okc W hcp)
                have HG2 := Lib.hid hg
                have HY := Lib.hid hy
                have hnn : (n : Int) + 1 ≤ 5 := by omega
                clear hg hcp hy Hs
                cases okc with
                | false =>
                  gi_wp2_with (first | (gi_at_call 43; refine (callsIn_wide.2 (CC.out _)).mono ?_; rintro e w' ⟨rfl, ⟨nc, rfl⟩⟩) | fail)
                  gi_roundg (5 - (n + 1))
                  case measure => have := Hn.out.1; omega
                  case rel => exact ⟨n + 1, op, rest, by go_num, rfl, rfl, Lib.hid ⟨rfl, by omega⟩, Lib.hid (by simpa using HG2.out), Lib.hid (pw_below_drewN (HBV.out.alloc HBV.out.size _) _)⟩
                | true =>
                  by_cases hrx : rest = x0
                  · have hrq : (rest.toList == x0.toList) = true := by rw [hrx]; exact beq_self_eq_true _
                    have HRX := Lib.hid hrx
                    clear hrx
                    gi_wp2_with (first | (gi_at_call 43; refine (callsIn_wide.2 (CC.out _)).mono ?_; rintro e w' ⟨rfl, ⟨nc, rfl⟩⟩) | fail)
                    all_goals gi_roundg (5 - (n + 1))
                    case measure => have := Hn.out.1; omega
                    case rel => exact ⟨n + 1, y1, cu, by go_num, rfl, rfl, Lib.hid ⟨rfl, by omega⟩, Lib.hid (by have := HG2.out; rw [if_pos trivial, if_pos HRX.out] at this; exact this), Lib.hid (pw_below_drewN (HBV.out.alloc HBV.out.size _) _)⟩
                  · have hrq : (rest.toList == x0.toList) = false := by
                      rw [beq_eq_false_iff_ne, ByteArray.toList_eq, ByteArray.toList_eq]
                      exact fun e => hrx (Go.Proofs.YtijooffpjfhidaaGreatDoor.Txt.ext e)
                    have HRX := Lib.hid hrx
                    clear hrx
                    gi_wp2_with (first | (gi_at_call 43; refine (callsIn_wide.2 (CC.out _)).mono ?_; rintro e w' ⟨rfl, ⟨nc, rfl⟩⟩) | fail)
                    all_goals gi_roundg (5 - (n + 1))
                    case measure => have := Hn.out.1; omega
                    case rel => exact ⟨n + 1, op, rest, by go_num, rfl, rfl, Lib.hid ⟨rfl, by omega⟩, Lib.hid (by have := HG2.out; rw [if_pos trivial, if_neg HRX.out] at this; exact this), Lib.hid (pw_below_drewN (HBV.out.alloc HBV.out.size _) _)⟩
              · obtain rfl : n = 5 := by have := Hn.out.2; omega
                have hs5 : some (op, rest) = some (o1, o2) := Hs.out
                obtain ⟨rfl, rfl⟩ := Prod.mk.inj (Option.some.inj hs5)
                obtain ⟨⟨v0, v1, v2, v3, okv⟩, hv, hw⟩ := Option.bind_eq_some_iff.1 HW.out
                have CV := Lib.hid (fun W hl => version_Parse.calls k rest v0 v1 v2 v3 okv W hv hl)
                have HW3 := Lib.hid hw
                clear hs5 hv hw Hs HW
                cases okv with
                | false =>
                  gi_wp2_with (first | (gi_at_call 44; refine (callsIn_wide.2 (CV.out _ ?hl)).mono ?_; (case hl => exact (HLW.out 0).below HBV.out); rintro e w' ⟨rfl, hbe⟩; have HBE := Lib.hid (HBV.out.trans (hbe.mono HBV.out.size)); obtain ⟨_, _, q3, q4, _, _, _, qz⟩ := HX.out w' HBE.out; have hc0' := (q3.alloc (Obj.cells #[.int .i64 v0, .int .i64 v1, .int .i64 v2, .string v3] 35)).cell; have hc1' := (q4.alloc (Obj.cells #[.int .i64 v0, .int .i64 v1, .int .i64 v2, .string v3] 35)).cell; have hf1' := (q4.alloc (Obj.cells #[.int .i64 v0, .int .i64 v1, .int .i64 v2, .string v3] 35)).frozen; clear q3 q4 hbe) | fail)
                  obtain ⟨x1, _, _, x4, x5, x6, _, _⟩ := HX.out _ (HBE.out.alloc HBE.out.size (Obj.cells #[.int .i64 v0, .int .i64 v1, .int .i64 v2, .string v3] 35))
                  have hgf : g = false := by
                    have h3 := HW3.out
                    rw [if_pos trivial] at h3
                    obtain ⟨rfl, rfl⟩ := Prod.mk.inj (Option.some.inj h3)
                    have h4 := HGO.out
                    rw [if_pos rfl] at h4
                    exact (Prod.mk.inj (Option.some.inj h4)).2.symm
                  exact ⟨kf_set x6 _ _, rfl, ⟨u, x1.other (by omega) _⟩, x4.set _, Lib.hid hgf, x5.step (bl_set (Below.refl N _) _ _ _ (by omega)) (by omega)⟩
                | true =>
                  gi_upto_if 69 with (first | (gi_at_call 44; refine (callsIn_wide.2 (CV.out _ ?hl)).mono ?_; (case hl => exact (HLW.out 0).below HBV.out); rintro e w' ⟨rfl, hbe⟩; have HBE := Lib.hid (HBV.out.trans (hbe.mono HBV.out.size)); obtain ⟨_, _, q3, q4, _, _, _, qz⟩ := HX.out w' HBE.out; have hc0' := (q3.alloc (Obj.cells #[.int .i64 v0, .int .i64 v1, .int .i64 v2, .string v3] 35)).cell; have hc1' := (q4.alloc (Obj.cells #[.int .i64 v0, .int .i64 v1, .int .i64 v2, .string v3] 35)).cell; have hf1' := (q4.alloc (Obj.cells #[.int .i64 v0, .int .i64 v1, .int .i64 v2, .string v3] 35)).frozen; clear q3 q4 hbe) | (gi_at_call 25; ((have hx := HX.out (w'.alloc (Obj.cells #[.int .i64 v0, .int .i64 v1, .int .i64 v2, .string v3] 35)) (HBE.out.alloc HBE.out.size _)); refine (callsIn_wide.2 (span_Parse.hand op v0 v1 v2 v3 acc _ B (N + 5) u hx.1 hx.2.1 ?p1 ?p2 ?p3)).mono ?_; (case p1 => omega); (case p2 => rw [World.size_alloc]; omega); (case p3 => have := HA.out; omega); rintro e w8 ⟨⟨q, rfl⟩, ⟨u2, hb2, hr2⟩, hfh⟩; have HB2 := Lib.hid hb2; have HR2 := Lib.hid hr2; have HF2 := Lib.hid (span_Parse.after (w := w) (W0 := W0) (B := B) (N := N) hBN hN hs0 hx.2.2 hWs qz hfh); obtain ⟨q3, q4, _, _, _, qy, qv⟩ := HF2.out; have hc0'' := q3.cell; have hc1'' := q4.cell; have hf1'' := q4.frozen; have n0 := span_Holds.cells qv 0 _ rfl; have n1 := span_Holds.cells qv 1 _ rfl; have n2 := span_Holds.cells qv 2 _ rfl; have n3 := span_Holds.cells qv 3 _ rfl; clear hx hb2 hr2 hfh q3 q4 qv)) | fail)
                  have h3 := HW3.out
                  rw [if_neg (by simp)] at h3
                  clear HW3
                  cases wd with
                  | true =>
                    rw [if_pos rfl] at h3
                    obtain ⟨⟨z0, z1, z2, z3⟩, hz, h3⟩ := Option.bind_eq_some_iff.1 h3
                    obtain ⟨hbs, rfl⟩ := Prod.mk.inj (Option.some.inj h3)
                    have CA := Lib.hid (fun W => span_above.calls v0 v1 v2 v3 t z0 z1 z2 z3 W hz)
                    have HBS := Lib.hid hbs
                    clear h3 hz hbs
                    gi_wp2
                    gi_region_with (first | (gi_at_call 45; refine (callsIn_wide.2 (CA.out _)).mono ?_; rintro e w9 ⟨rfl, hbe9⟩; have hb9 := (show Below w8.heap.size w8 _ from (by repeat (first | exact Below.refl _ _ | apply pw_below_drewN | apply below_drew1))).trans hbe9; have HB9 := Lib.hid hb9; have hc9 := (boxed_same (hb9.block _ (by omega)) HF2.out.1).cell; clear hbe9 hb9) | (gi_at_call 25; refine (callsIn_wide.2 (span_Parse.hand 2 z0 z1 z2 z3 (acc ++ [⟨op, ⟨v0, v1, v2, v3⟩⟩]) _ B (N + 5) u2 (boxed_same (HB9.out.block _ HB2.out.lt) HB2.out) (Kd.R_below HR2.out HB9.out) ?p1 ?p2 ?p3)).mono ?_; (case p1 => omega); (case p2 => have := HB9.out.size; omega); (case p3 => have := HA.out; rw [List.length_append, List.length_singleton]; omega); rintro e w10 ⟨⟨q', rfl⟩, ⟨u3, hb3, hr3⟩, hfh3⟩; have HB3 := Lib.hid hb3; have HR3 := Lib.hid hr3; have HF3 := Lib.hid (span_Parse.after2 hBN hN hs0 HF2.out HB9.out hfh3); clear hb3 hr3 hfh3) | fail)
                    all_goals exact span_Parse.fin HBS.out HGO.out (by simp) (fun hgo => ⟨HF3.out.2.2.2.1, HF3.out.2.2.2.2, ⟨u3, _, HB3.out, HR3.out, Lib.hid hgo⟩, HF3.out.1, HF3.out.2.1, HF3.out.2.2.1⟩)
                  | false =>
                    rw [if_neg (by decide)] at h3
                    obtain ⟨hbs, rfl⟩ := Prod.mk.inj (Option.some.inj h3)
                    have HBS := Lib.hid hbs
                    clear h3 hbs
                    gi_wp2
                    have hF2 := HF2.out
                    exact span_Parse.fin HBS.out HGO.out rfl (fun hgo => ⟨hF2.2.2.2.1, hF2.2.2.2.2.1, ⟨u2, _, HB2.out, HR2.out, Lib.hid hgo⟩, hF2.1, hF2.2.1, hF2.2.2.1⟩)
  case done =>
    rintro D W hD' ⟨⟨u, acc, hu1, hR, HG⟩, hbN, hb1, hFr⟩ hK
    have hWs : N + 5 ≤ D := by omega
    have hDl := (Array.getElem?_eq_some_iff.1 hK).1
    have hg := HG.out
    rw [List.length_map, List.drop_length] at hg
    obtain ⟨rfl, rfl⟩ := Prod.mk.inj (Option.some.inj hg)
    have HU := Lib.hid hu1
    have HR := Lib.hid hR
    have HFR := Lib.hid hFr
    have H1 := Lib.hid hb1
    have hc1 := hb1.cell
    have hf1 := hb1.frozen
    clear hg HG hu1 hR hFr hbN hb1
    gi_wp2
    have hK' := (same_set (c := N + 1) (o := 0) (v := .bool true) (X := W) (W := W) (b := D) rfl (by omega)).trans hK
    refine ⟨by simp, .inl ⟨_, _, rfl, run_takeDeferred hK', ?_⟩⟩
    have p1 := (boxed_same (World.putObj_heap_other (o := .deferred none) (by omega : N + 1 ≠ D)) (H1.out.set (.bool true))).cell
    have e1 : ∀ b, b ≠ N + 1 → b ≠ D → ((W.setCell ⟨N + 1, 0, none⟩ (.bool true)).putObj D (.deferred none)).heap[b]? = W.heap[b]? := fun b h1 h2 => (World.putObj_heap_other h2).trans (same_set (X := W) (W := W) rfl h1)
    refine ⟨.bool true, by simp [results, Tryz.f24, go_sem, p1], rfl, ⟨u, boxed_same (e1 B (by omega) (by omega)) HU.out, ?_⟩, HFR.out.step (bl_putObj (bl_set (Below.refl N W) _ _ _ (by omega)) _ (by omega) (by simp; omega) hK') (by omega)⟩
    refine Kd.R_lower (base := N + 5) (Kd.R_mono (Kd.R_step (Kd.R_bound HR.out) (fun k hk _ => e1 k (by omega) (fun ek => ?_))) (fun _ _ => trivial)) (by omega)
    obtain ⟨_, _, _, q, _, cells, hq⟩ := hk
    rw [ek, hK] at hq; cases hq
  case stop =>
    rintro D c W hD' ⟨rfl, ⟨u, hu1⟩, hb1, HGF, hFr⟩ hK
    obtain rfl := HGF.out
    have hDl := (Array.getElem?_eq_some_iff.1 hK).1
    have HU := Lib.hid hu1
    have HFR := Lib.hid hFr
    have H1 := Lib.hid hb1
    clear hu1 hFr hb1
    gi_wp2
    refine ⟨by simp, .inl ⟨_, _, rfl, run_takeDeferred hK, ?_⟩⟩
    have p1 := (boxed_same (World.putObj_heap_other (o := .deferred none) (by omega : N + 1 ≠ D)) H1.out).cell
    exact ⟨.bool false, by simp [results, Tryz.f24, go_sem, p1], rfl, ⟨u, boxed_same (World.putObj_heap_other (by omega)) HU.out⟩, HFR.out.step (bl_putObj (Below.refl N W) _ (by omega) (by omega) hK) (by omega)⟩
end
end Go.Proofs.YtijooffpjfhidaaGreatDoor.G
end
section
namespace Go.Proofs.YtijooffpjfhidaaGreatDoor.G
open Go.RowKit Go.Proofs.YtijooffpjfhidaaGreatDoorW.PrintWords Go.Proofs.YtijooffpjfhidaaGreatDoorW.PrintLast Go.Proofs.YtijooffpjfhidaaGreatDoorW.PrintMore
attribute [local go_sem] Go.Proofs.YtijooffpjfhidaaGreatDoor.Aid.gtr_string max2_int min2_int max_two min_two max_three min_three max_four min_four
set_option linter.unusedVariables false
set_option linter.unusedSimpArgs false
section
open Lib Go.Proofs.YtijooffpjfhidaaGreatDoor.Rng Go.Proofs.YtijooffpjfhidaaGreatDoor.Seq Go.Proofs.YtijooffpjfhidaaGreatDoor.App
attribute [local go_sem] Oper.semAt_some
theorem span_Parse.fr_at {W w8 : World} {o : Obj} (h : Fr W.heap.size (W.alloc o) w8) (k : Nat) (hk : k < W.heap.size) : w8.heap[k]? = W.heap[k]? := (h.block k (by rw [World.size_alloc]; omega) (by omega)).trans (Below.heap_alloc W o k hk)
theorem span_Parse.fr_size {W w8 : World} {o : Obj} (h : Fr W.heap.size (W.alloc o) w8) : W.heap.size ≤ w8.heap.size := by have := h.size; rw [World.size_alloc] at this; omega
theorem span_Parse.fr_keeps {W w8 : World} {o : Obj} {B : Nat} (h : Fr W.heap.size (W.alloc o) w8) : KeepsFrom B W w8 := ⟨span_Parse.fr_size h, fun k o _ hk _ => (span_Parse.fr_at h k (Array.getElem?_eq_some_iff.1 hk).1).trans hk⟩
theorem span_Parse.fr_below {W w8 : World} {o : Obj} {n : Nat} (h : Fr W.heap.size (W.alloc o) w8) (hn : n ≤ W.heap.size) : Below n W w8 := ⟨h.os, h.tape, h.output, span_Parse.fr_size h, fun k hk => span_Parse.fr_at h k (by omega)⟩
theorem span_Parse.flat {W : World} {base : Nat} {u : Value} {bs : List S45} (h : Kd.R k45 45 W base (fun _ => True) u bs) : Kd.R k45 45 W base (fun k_ => some k_ = u.ownBlock) u bs :=
  Kd.R_flat (fun h => by obtain rfl := k45_openM h; exact k45_mkM _ _ _ _) h (fun k hk _ => hk.symm)
theorem span_Parse.step {N B0 : Nat} {w W w8 w1 : World} {o : Obj} {v v1 x y : Value} {all all' : List (List S45)} (hWs : N + 7 ≤ W.heap.size) (hB0 : N + 6 ≤ B0) (hgN : 3 < N)
    (HV : Boxed W (N + 2) 24 v) (HS : Kd.S (Kd.slice 45 k45) 38 W (N + 6) (fun _ => True) v all) (HN : Boxed W N 24 x) (H1 : Boxed W (N + 1) 4 y) (HB : Below N w W) (HFR : Fr W.heap.size (W.alloc o) w8) (hg : w8.grownBy w1 v.ownBlock)
    (ho : Kd.S (Kd.slice 45 k45) 38 w1 (N + 6) (fun _ => True) v1 all') :
    KeepsFrom B0 W (w1.setCell ⟨N + 2, 0, none⟩ v1) ∧ ((w1.setCell ⟨N + 2, 0, none⟩ v1).heap[N + 3]? = W.heap[N + 3]? ∧ (w1.setCell ⟨N + 2, 0, none⟩ v1).heap[N + 3 + 1]? = W.heap[N + 3 + 1]? ∧ (w1.setCell ⟨N + 2, 0, none⟩ v1).heap[N + 3 + 2]? = W.heap[N + 3 + 2]? ∧ (w1.setCell ⟨N + 2, 0, none⟩ v1).cell? ⟨3, 0, none⟩ = W.cell? ⟨3, 0, none⟩) ∧
      (Boxed (w1.setCell ⟨N + 2, 0, none⟩ v1) (N + 2) 24 v1 ∧ Kd.S (Kd.slice 45 k45) 38 (w1.setCell ⟨N + 2, 0, none⟩ v1) (N + 6) (fun _ => True) v1 all') ∧ Boxed (w1.setCell ⟨N + 2, 0, none⟩ v1) N 24 x ∧ Boxed (w1.setCell ⟨N + 2, 0, none⟩ v1) (N + 1) 4 y ∧ Below N w (w1.setCell ⟨N + 2, 0, none⟩ v1) := by
  have h8 := span_Parse.fr_size HFR
  have h1 := hg.size
  have hat : ∀ k, k < W.heap.size → some k ≠ v.ownBlock → k ≠ N + 2 → (w1.setCell ⟨N + 2, 0, none⟩ v1).heap[k]? = W.heap[k]? := fun k hk hn h2 =>
    (Below.heap_setCell w1 ⟨N + 2, 0, none⟩ v1 k h2).trans ((hg.block k (by omega) hn).trans (span_Parse.fr_at HFR k hk))
  have hlow : ∀ k, k < N + 6 → some k ≠ v.ownBlock := fun k hk e => by have := Kd.S_base HS k e.symm; omega
  have hs1 : W.heap.size ≤ (w1.setCell ⟨N + 2, 0, none⟩ v1).heap.size := Nat.le_trans (by omega) (KeepsWalks.setCell w1 ⟨N + 2, 0, none⟩ v1).size
  have hv1 : Boxed w1 (N + 2) 24 v := (boxed_same (span_Parse.fr_at HFR _ (by omega)) HV).kept hg (hlow _ (by omega))
  refine ⟨⟨hs1, fun k o' hk ho' hc => (hat k (Array.getElem?_eq_some_iff.1 ho').1 (fun e => ?_) (by omega)).trans ho'⟩, ⟨hat _ (by omega) (hlow _ (by omega)) (by omega), hat _ (by omega) (hlow _ (by omega)) (by omega), hat _ (by omega) (hlow _ (by omega)) (by omega), World.cell?_of_block (w := W) (hat _ (by show 3 < _; omega) (hlow _ (by show 3 < _; omega)) (by show 3 ≠ _; omega))⟩,
    ⟨hv1.set v1, Kd.S_set ho hv1 (by decide) 0 _⟩, boxed_same (hat _ (by omega) (hlow _ (by omega)) (by omega)) HN, boxed_same (hat _ (by omega) (hlow _ (by omega)) (by omega)) H1, ?_⟩
  · obtain ⟨cells, hc'⟩ := Kd.S_typed HS k e.symm
    rw [hc'] at ho'; cases ho'; cases hc
  · exact HB.trans ⟨hg.os.trans HFR.os, hg.tape.trans HFR.tape, hg.output.trans HFR.output, hs1, fun k hk => hat k (by omega) (hlow k (by omega)) (by omega)⟩
set_option maxRecDepth 100000 in
set_option maxHeartbeats 8000000 in
theorem span_Parse.calls (k : Nat) (a0 : ByteArray) (r1 : List (List (S45))) (r2 : Bool) (w : World) (h : span_Parse.f k a0 = some (r1, r2)) (hLD : LD w) :
    Calls Tryz.prog 12 #[.string a0] w fun e w' => ∃ v0_ : Value, e = .returned (.tuple #[.agg #[v0_], .bool r2]) ∧ Kd.S (Kd.slice 45 k45) 38 w' w.heap.size (fun _ => True) v0_ r1 ∧ Below w.heap.size w w' := by
  unfold span_Parse.f at h
  split at h
  case isFalse => cases h
  rename_i hsz
  have hF : ∀ k, Fence.wide.fn k := fun _ => trivial
  have hD : Fence.wide.depth.isSome = false := rfl
  have hu := Tryz.underlying24
  obtain ⟨m, hm⟩ := hLD.mx
  have hgN : 3 < w.heap.size := cell?_lt hm
  refine (callsIn_wide (n := 6)).1 ?_
  refine callsIn_of_wp_marks Tryz.func12 rfl trivial ?_ rfl
  simp only [Tryz.ntmps12, List.size_toArray, List.length_cons, List.length_nil, Nat.reduceAdd, Nat.reduceSub, Array.replicate_succ, Array.replicate_zero, List.push_toArray, List.append_toArray, List.nil_append, List.cons_append]
  have H := Lib.hid h
  have HL := Lib.hid hLD
  have HM := Lib.hid hm
  clear h hLD hm
  gi_wp2_with (gi_at_call 23; refine (callsIn_wide.2 (callsIn_wide.1 (seq_calls _ _ _))).mono ?_; rintro e w' ⟨rfl, rfl⟩)
  obtain ⟨L, hL⟩ : ∃ L, cutsD a0 = L := ⟨_, rfl⟩
  obtain ⟨N, hN⟩ : ∃ N, w.heap.size = N := ⟨_, rfl⟩
  obtain ⟨W0, hW0⟩ : ∃ W0, seqW a0 ⟨#[124, 124]⟩ (((w.alloc (.cells #[.slice none 0 0] 24)).alloc (.cells #[.bool false] 4)).alloc (.cells #[.slice none 0 0] 24)) = W0 := ⟨_, rfl⟩
  obtain ⟨hs0, b0, b1, b2, b3, b4, b5, hB0⟩ := seqW_facts _ _ w _ _ _ N hN W0 hW0
  have hN' : N ≤ w.heap.size := by omega
  rw [hW0, hN]
  clear hW0
  have hKm : ∀ (X Y : World), Below N X Y → Y.cell? ⟨3, 0, none⟩ = X.cell? ⟨3, 0, none⟩ := fun X Y hb => hb.cell (p := ⟨3, 0, none⟩) (by show 3 < N; omega)
  have HKM := Lib.hid hKm
  clear hKm
  refine wpIn_iter (gf := 67) (lb := #[.pointer (some ⟨N + 1 + 1 + 1 + 1, 0, none⟩), .pointer (some ⟨N + 1 + 1 + 1, 0, none⟩), .pointer (some ⟨N + 1 + 1 + 1 + 2, 0, none⟩)]) rfl (enters_of Tryz.func67 (by kernel_rfl) rfl)
    (Bs := fun r => r = N + 3) (Kp := fun X Y => Y.heap[N + 3]? = X.heap[N + 3]? ∧ Y.heap[N + 3 + 1]? = X.heap[N + 3 + 1]? ∧ Y.heap[N + 3 + 2]? = X.heap[N + 3 + 2]? ∧ Y.cell? ⟨3, 0, none⟩ = X.cell? ⟨3, 0, none⟩) (xs := L.map encS)
    (fun W hW => by rw [← hL]; exact seq2_iter a0 m (N + 3) _ W hsz (boxed_same (hW.block _ (by omega)) b3) (boxed_same (hW.block _ (by omega)) b4) (boxed_same (hW.block _ (by omega)) b5) ((HKM.out _ _ (hW.mono (by omega))).trans ((HKM.out _ _ hB0).trans HM.out)) (by omega) (fun _ _ h => h))
    (fun r h => by omega) (fun h k => ⟨k.1.trans h.1, k.2.1.trans h.2.1, k.2.2.1.trans h.2.2.1, k.2.2.2.trans h.2.2.2⟩)
    (fun W l o o' hl ho _ => ⟨World.putObj_heap_other (by omega), World.putObj_heap_other (by omega), World.putObj_heap_other (by omega), World.cell?_of_block (w := W) (World.putObj_heap_other (by show 3 ≠ l; omega))⟩)
    (fun x hx => by obtain ⟨s, _, rfl⟩ := List.mem_map.1 hx; rfl)
    (fun i W => (∃ v all, Boxed W (N + 2) 24 v ∧ Kd.S (Kd.slice 45 k45) 38 W (N + 6) (fun _ => True) v all ∧ Hid (span_Parse.go k (L.drop i) all = some (r1, r2))) ∧ Boxed W N 24 (.slice none 0 0) ∧ Boxed W (N + 1) 4 (.bool false) ∧ Below N w W)
    (fun c W => c = .ret ∧ Boxed W N 24 (.slice none 0 0) ∧ Boxed W (N + 1) 4 (.bool false) ∧ Hid (r1 = [] ∧ r2 = false) ∧ Below N w W)
    ((OwnC.ex fun v => OwnC.ex fun all => (ownC_boxed (by omega)).and ((ownC_S (by intro r hr; omega)).and (ownC_pure _))).and ((ownC_boxed (by omega)).and ((ownC_boxed (by omega)).and (ownC_below hN' (by omega) (by intro r hr; omega)))))
    (fun c => (ownC_pure _).and ((ownC_boxed (by omega)).and ((ownC_boxed (by omega)).and ((ownC_pure _).and (ownC_below hN' (by omega) (by intro r hr; omega))))))
    ⟨⟨_, [], b2, Kd.S_nil _ _ _ _ _, Lib.hid (by rw [← hL]; exact H.out)⟩, b0, b1, hB0⟩
    (fun i a' _ => ∃ x, L[i]? = some x ∧ a' = { tmps := #[.string a0, undef, .pointer (some ⟨N, 0, none⟩), .pointer (some ⟨N + 1, 0, none⟩), .pointer (some ⟨N + 1 + 1, 0, none⟩), .string x, undef, .string a0, .func (.func 67) #[] #[.pointer (some ⟨N + 1 + 1 + 1 + 1, 0, none⟩), .pointer (some ⟨N + 1 + 1 + 1, 0, none⟩), .pointer (some ⟨N + 1 + 1 + 1 + 2, 0, none⟩)], .string x, undef, undef, undef, undef, undef, undef, undef, undef, undef, undef, undef, undef, undef, undef, undef, undef], defers := [] })
    (fun i a' s W W' row hs hg hr => hs) ?assign ?body ?done ?stop
  case assign =>
    intro l i x W K hx _ hK
    rw [List.getElem?_map] at hx
    obtain ⟨x0, hs, rfl⟩ := Option.map_eq_some_iff.1 hx
    unfold encS
    gi_wp2
    refine hK _ _ (KeepsFrom.refl _ _) ⟨rfl, rfl, rfl, rfl⟩ (by assumption) ⟨x0, hs, rfl⟩
  case body =>
    rintro l i x a' W hl ⟨rr, hrr⟩ hx ⟨⟨v, all, hv, hS, HG⟩, hbN, hb1, hBl⟩ ⟨x0, hx0, rfl⟩
    have hWs : N + 7 ≤ W.heap.size := by have := (Array.getElem?_eq_some_iff.1 hrr).1; omega
    have hdrop : L.drop i = x0 :: L.drop (i + 1) := by
      rw [List.drop_eq_getElem_cons (List.getElem?_eq_some_iff.1 hx0).1]
      rw [(List.getElem?_eq_some_iff.1 hx0).2]
    have hg := HG.out
    rw [hdrop] at hg
    simp only [span_Parse.go] at hg
    split at hg
    case isFalse => cases hg
    rename_i hxs
    split at hg
    case isFalse => cases hg
    rename_i hal
    obtain ⟨⟨bs, okr⟩, hr, hg2⟩ := Option.bind_eq_some_iff.1 hg
    have HGO := Lib.hid hg2
    have HA := Lib.hid hal
    have hS' := hS
    obtain ⟨A, c, rfl⟩ := Kd.S_slice hS'
    have CR := Lib.hid (span_Parse.read_calls k x0 bs okr (W.alloc (.cells #[.slice none 0 0] 38)) w W.heap.size hr hxs (Boxed.new W _ _) (hN.symm ▸ hBl.alloc (by omega) _) (by omega) HL.out)
    have HV := Lib.hid hv
    have HS := Lib.hid hS
    have HN := Lib.hid hbN
    have H1 := Lib.hid hb1
    have HB := Lib.hid hBl
    have hv2 := hv.cell
    clear hg hg2 hdrop hx HG hal hr hxs hv hS hS' hbN hb1 hBl hrr
    cases okr with
    | false =>
      gi_wp2_with (first | (gi_at_call 24; refine (callsIn_wide.2 CR.out).mono ?_; rintro e w8 ⟨rfl, ⟨u, hu8, _⟩, hfr⟩; have h8 := hfr.size; rw [World.size_alloc] at h8; have HFR := Lib.hid hfr; have hq0 := boxed_same (hfr.block N (by rw [World.size_alloc]; omega) (by omega)) (HN.out.alloc _); have hq1 := boxed_same (hfr.block (N + 1) (by rw [World.size_alloc]; omega) (by omega)) (H1.out.alloc _); have HQ0 := Lib.hid hq0; have HQ1 := Lib.hid hq1; have c0 := hq0.cell; have f0 := hq0.frozen; have c1 := hq1.cell; have f1 := hq1.frozen; clear hu8 hfr hq0 hq1) | fail)
      have hgf : r1 = [] ∧ r2 = false := by
        have h4 := HGO.out
        rw [if_pos trivial] at h4
        obtain ⟨rfl, rfl⟩ := Prod.mk.inj (Option.some.inj h4)
        exact ⟨rfl, rfl⟩
      exact ⟨kf_set (kf_set (span_Parse.fr_keeps HFR.out) _ _) _ _, rfl, (HQ0.out.set _).other (by omega) _, (HQ1.out.other (by omega) _).set _, Lib.hid hgf, bl_set (bl_set (HB.out.trans (span_Parse.fr_below HFR.out (by omega))) _ _ _ (by omega)) _ _ _ (by omega)⟩
    | true =>
      gi_wp2_with (first | (gi_at_call 24; refine (callsIn_wide.2 CR.out).mono ?_; rintro e w8 ⟨rfl, ⟨u, hu8, hr8⟩, hfr⟩; have h8 := hfr.size; rw [World.size_alloc] at h8; have hR8 := hr8 rfl; have hR8' := hR8; obtain ⟨Au, cu, rfl⟩ := Kd.R_slice hR8'; have HFR := Lib.hid hfr; have HR8 := Lib.hid hR8; have hq2 := boxed_same (hfr.block (N + 2) (by rw [World.size_alloc]; omega) (by omega)) (HV.out.alloc _); have HQ2 := Lib.hid hq2; have HU8 := Lib.hid hu8; have c2 := hq2.cell; have c3 := hu8.cell; clear hr8 hR8 hR8' hu8 hfr hq2) | (gi_at_builtin; refine S_append_in (Kd.slice 45 k45) (N + 6) ?a1 (.tmp 16) (.tmp 18) 22 38 (.slice none 0 0) 24 ?a2 ?a3 ?a4 ?a5 ?a6 ?a7 (.slice A all.length c) all bs [.slice Au bs.length cu] (fun _ => True) (fun k_ => some k_ = (Value.slice Au bs.length cu).ownBlock) ?aY ?aX ?aP ?aK ?aF ?aO ?aS ?aL ?_; (case a1 => rfl); (case a2 => rfl); (case a3 => exact Tryz.underlying22); (case a4 => exact info38); (case a5 => rfl); (case a6 => decide); (case a7 => decide); (case aY => rfl); (case aX => first | rfl | (rw [World.size_alloc]; rfl)); (case aP => exact ⟨_, rfl, Kd.R_lower (span_Parse.flat HR8.out) (by rw [World.size_alloc]; omega)⟩); (case aK => exact fun k_ hk => ⟨trivial, fun e => by have h1 := Kd.S_lt HS.out k_ e.symm; have h2 := Kd.R_base HR8.out k_ hk.symm; rw [World.size_alloc] at h2; omega⟩); (case aF => exact (fun _ _ => trivial)); (case aO => exact Kd.S_mono (Kd.S_step (Kd.S_bound HS.out) (fun k_ hk _ => span_Parse.fr_at HFR.out k_ hk.2.2.1)) (fun k_ hk => ⟨trivial, fun e => by have h1 := hk.2.2.1; have h2 := Kd.R_base HR8.out k_ e.symm; rw [World.size_alloc] at h2; omega⟩)); (case aS => omega); (case aL => have := HA.out; omega); intro v1 w1 ho hg hat; have hw1 := HQ2.out.kept hg (Kd.S_ne HS.out HV.out (by decide)); have ho' := ho; obtain ⟨A1, c1, rfl⟩ := Kd.S_slice ho'; have HO := Lib.hid ho; have HG1 := Lib.hid hg; have c4 := hw1.cell; have f4 := hw1.frozen; clear ho ho' hg hat hw1) | fail)
      have hO := HO.out
      rw [List.length_append, List.length_singleton] at hO
      obtain ⟨x1, x2, x3, x4, x5, x6⟩ := span_Parse.step (B0 := W0.heap.size) hWs (by omega) (by omega) HV.out HS.out HN.out H1.out HB.out HFR.out HG1.out hO
      have h4 := HGO.out
      rw [if_neg (by simp)] at h4
      exact ⟨x1, x2, ⟨_, _, x3.1, x3.2, Lib.hid h4⟩, x4, x5, x6⟩
  case done =>
    rintro D W hD' ⟨⟨v, all, hv, hS, HG⟩, hbN, hb1, hBl⟩ hK
    have hDl := (Array.getElem?_eq_some_iff.1 hK).1
    have hg := HG.out
    rw [List.length_map, List.drop_length] at hg
    obtain ⟨g, hr, hg2⟩ := Option.bind_eq_some_iff.1 hg
    obtain ⟨A, c, rfl, hc, hC⟩ := Kd.S_reads hS
    have CR := Lib.hid (span_right.calls k A c all g W hC hc hr (HL.out.below (hN.symm ▸ hBl)))
    have HV := Lib.hid hv
    have HS := Lib.hid hS
    have HN := Lib.hid hbN
    have H1 := Lib.hid hb1
    have HB := Lib.hid hBl
    have HG2 := Lib.hid hg2
    have hv2 := hv.cell
    clear hg hg2 HG hr hC hc hv hS hbN hb1 hBl
    have HX : Hid (∀ X, Below W.heap.size W X → ∀ y, X.heap[D]? = some (.deferred (some [])) ∧ ((X.setCell ⟨N, 0, none⟩ y).setCell ⟨N + 1, 0, none⟩ (.bool g)).heap[D]? = some (.deferred (some [])) ∧ Boxed (((X.setCell ⟨N, 0, none⟩ y).setCell ⟨N + 1, 0, none⟩ (.bool g)).putObj D (.deferred none)) N 24 y ∧ Boxed (((X.setCell ⟨N, 0, none⟩ y).setCell ⟨N + 1, 0, none⟩ (.bool g)).putObj D (.deferred none)) (N + 1) 4 (.bool g) ∧ Kd.S (Kd.slice 45 k45) 38 (((X.setCell ⟨N, 0, none⟩ y).setCell ⟨N + 1, 0, none⟩ (.bool g)).putObj D (.deferred none)) N (fun _ => True) (.slice A all.length c) all ∧ Below N w (((X.setCell ⟨N, 0, none⟩ y).setCell ⟨N + 1, 0, none⟩ (.bool g)).putObj D (.deferred none))) := Lib.hid (fun X hX y => by
      have hKX := (hX.block _ hDl).trans hK
      have hKY := (same_set (c := N + 1) (o := 0) (v := .bool g) (X := X.setCell ⟨N, 0, none⟩ y) (W := X.setCell ⟨N, 0, none⟩ y) (b := D) rfl (by omega)).trans ((same_set (c := N) (o := 0) (v := y) (X := X) (W := X) (b := D) rfl (by omega)).trans hKX)
      have e1 : ∀ b, b ≠ N → b ≠ N + 1 → b ≠ D → b < W.heap.size → (((X.setCell ⟨N, 0, none⟩ y).setCell ⟨N + 1, 0, none⟩ (.bool g)).putObj D (.deferred none)).heap[b]? = W.heap[b]? := fun b h1 h2 h3 h4 => (World.putObj_heap_other h3).trans ((same_set (X := X.setCell ⟨N, 0, none⟩ y) (W := X.setCell ⟨N, 0, none⟩ y) rfl h2).trans ((same_set (X := X) (W := X) rfl h1).trans (hX.block _ h4)))
      have hxN := boxed_same (hX.block N (by omega)) HN.out
      have hx1 := boxed_same (hX.block (N + 1) (by omega)) H1.out
      refine ⟨hKX, hKY, boxed_same (World.putObj_heap_other (by omega)) ((hxN.set y).other (by omega) _), boxed_same (World.putObj_heap_other (by omega)) ((hx1.other (by omega) _).set _), ?_, bl_putObj (bl_set (bl_set (HB.out.trans (hX.mono (by omega))) _ _ _ (by omega)) _ _ _ (by omega)) _ (by omega) (by have := hX.size; simp; omega) hKY⟩
      refine Kd.S_lower (base := N + 6) (Kd.S_mono (Kd.S_step (Kd.S_bound HS.out) (fun k hk hl => e1 k (by omega) (by omega) (fun ek => ?_) hl)) (fun _ _ => trivial)) (by omega)
      obtain ⟨_, _, _, q, _, cells, hq⟩ := hk
      rw [ek, hK] at hq; cases hq)
    cases g with
    | true =>
      gi_wp2_with (first | (gi_at_call 26; refine (callsIn_wide.2 CR.out).mono ?_; rintro e w8 ⟨rfl, hb8⟩; have HB8 := Lib.hid hb8; have hq0 := boxed_same (hb8.block N (by omega)) HN.out; have hq1 := boxed_same (hb8.block (N + 1) (by omega)) H1.out; have hq2 := boxed_same (hb8.block (N + 2) (by omega)) HV.out; have c0 := hq0.cell; have f0 := hq0.frozen; have c1 := hq1.cell; have f1 := hq1.frozen; have c2 := hq2.cell; clear hb8 hq0 hq1 hq2) | fail)
      obtain ⟨_, x2, x3, x4, x5, x6⟩ := HX.out w8 HB8.out (.slice A all.length c)
      refine ⟨by simp, .inl ⟨_, _, rfl, run_takeDeferred x2, ?_⟩⟩
      have p0 := x3.cell
      have p1 := x4.cell
      have h2 := HG2.out
      simp only [if_true] at h2
      obtain ⟨rfl, rfl⟩ := Prod.mk.inj (Option.some.inj h2)
      exact ⟨.tuple #[.agg #[.slice A all.length c], .bool true], by simp [results, Tryz.f12, go_sem, p0, p1], _, rfl, hN.symm ▸ x5, hN.symm ▸ x6⟩
    | false =>
      gi_wp2_with (first | (gi_at_call 26; refine (callsIn_wide.2 CR.out).mono ?_; rintro e w8 ⟨rfl, hb8⟩; have HB8 := Lib.hid hb8; have hq0 := boxed_same (hb8.block N (by omega)) HN.out; have hq1 := boxed_same (hb8.block (N + 1) (by omega)) H1.out; have hq2 := boxed_same (hb8.block (N + 2) (by omega)) HV.out; have c0 := hq0.cell; have f0 := hq0.frozen; have c1 := hq1.cell; have f1 := hq1.frozen; have c2 := hq2.cell; clear hb8 hq0 hq1 hq2) | fail)
      obtain ⟨_, x2, x3, x4, x5, x6⟩ := HX.out w8 HB8.out (.slice none 0 0)
      refine ⟨by simp, .inl ⟨_, _, rfl, run_takeDeferred x2, ?_⟩⟩
      have p0 := x3.cell
      have p1 := x4.cell
      have h2 := HG2.out
      simp only [Bool.false_eq_true, if_false] at h2
      obtain ⟨rfl, rfl⟩ := Prod.mk.inj (Option.some.inj h2)
      exact ⟨.tuple #[.agg #[.slice none 0 0], .bool false], by simp [results, Tryz.f12, go_sem, p0, p1], _, rfl, Kd.S_nil _ _ _ _ _, hN.symm ▸ x6⟩
  case stop =>
    rintro D c W hD' ⟨rfl, hbN, hb1, HGF, hBl⟩ hK
    obtain ⟨rfl, rfl⟩ := HGF.out
    have hDl := (Array.getElem?_eq_some_iff.1 hK).1
    have HN := Lib.hid hbN
    have H1 := Lib.hid hb1
    have HB := Lib.hid hBl
    clear hbN hb1 hBl
    gi_wp2
    refine ⟨by simp, .inl ⟨_, _, rfl, run_takeDeferred hK, ?_⟩⟩
    have p0 := (boxed_same (World.putObj_heap_other (o := .deferred none) (by omega : N ≠ D)) HN.out).cell
    have p1 := (boxed_same (World.putObj_heap_other (o := .deferred none) (by omega : N + 1 ≠ D)) H1.out).cell
    exact ⟨.tuple #[.agg #[.slice none 0 0], .bool false], by simp [results, Tryz.f12, go_sem, p0, p1], _, rfl, Kd.S_nil _ _ _ _ _, bl_putObj HB.out _ (by omega) (by omega) hK⟩
end
end Go.Proofs.YtijooffpjfhidaaGreatDoor.G
end
section
namespace Go.Proofs.YtijooffpjfhidaaGreatDoor.G
open Go.RowKit Go.Proofs.YtijooffpjfhidaaGreatDoorW.PrintWords Go.Proofs.YtijooffpjfhidaaGreatDoorW.PrintLast Go.Proofs.YtijooffpjfhidaaGreatDoorW.PrintMore
attribute [local go_sem] Go.Proofs.YtijooffpjfhidaaGreatDoor.Aid.gtr_string max2_int min2_int max_two min_two max_three min_three max_four min_four
set_option linter.unusedVariables false
set_option linter.unusedSimpArgs false
set_option maxHeartbeats 8000000
set_option maxRecDepth 100000
def hoggetlaw05_word.f (k : Nat) (a0 : ByteArray) : Option (ByteArray) := (span_Parse.f k a0).bind fun bt338 => ((span_Print.f k bt338.1).bind fun bt343 => (if bt338.2 = true then (if bt343.2 = true then (some bt343.1) else (some (⟨#[110, 111, 110, 101]⟩ : ByteArray))) else (some (⟨#[110, 111, 110, 101]⟩ : ByteArray))))
theorem hoggetlaw05_word.calls (k : Nat) (a0 : ByteArray) (r : ByteArray) (w : World) (h : hoggetlaw05_word.f k a0 = some r) (hLD : LD w) :
 Calls Tryz.prog 33 #[.string a0] w fun e w' => e = .returned (.string r) ∧ Below w.heap.size w w' := by
 have hu24 := Tryz.underlying24;have HB := Aside0.mk (Below.refl w.heap.size w);have H : ((span_Parse.f k a0).bind fun bt338 => ((span_Print.f k bt338.1).bind fun bt343 => (if bt338.2 = true then (if bt343.2 = true then (some bt343.1) else (some (⟨#[110, 111, 110, 101]⟩ : ByteArray))) else (some (⟨#[110, 111, 110, 101]⟩ : ByteArray))))) = some r := h;clear h;replace H := Option.bind_eq_some_iff.mp H;obtain ⟨⟨t338, t341⟩, A20, H⟩ := H;have A2 := Aside0.mk A20;clear A20;replace H := Option.bind_eq_some_iff.mp H;obtain ⟨⟨t343, t344⟩, A30, H⟩ := H;have A3 := Aside0.mk A30;clear A30;by_cases c4 : t341 = true
 ·subst c4;(have H1 : (if t344 = true then (some t343) else (some (⟨#[110, 111, 110, 101]⟩ : ByteArray))) = some r := by rw [if_pos rfl] at H; exact H);clear H;have H := H1;clear H1;by_cases c5 : t344 = true
  ·subst c5;(have H1 : (some t343) = some r := by rw [if_pos rfl] at H; exact H);clear H;have H := H1;clear H1;obtain rfl := Option.some.inj H;(go_enter Tryz.func33, Tryz.ntmps33);go_wp2_with (first | ((with_reducible refine gate_callee (f := 12) rfl ?_); refine goesL_ (some 9) rfl rfl Tryz.func12 (by kernel_rfl) rfl #[.string a0] rfl sM ?_; (with_reducible refine (span_Parse.calls k a0 t338 true _ A2.out (sH hLD HB.out)).mono ?_); rintro e w6 ⟨v339, rfl, ho0, hb⟩; refine ⟨_, rfl, ?_⟩; have n0_ := Aside0.mk (Kd.S_lower ho0 (below_size (sL HB.out))); have n1_ := Aside0.mk (below_step (sL HB.out) hb); clear HB; have HO340 := n0_; have HB := n1_; clear n0_ n1_; (try clear hb); (try clear hb2); (try clear hk); (try clear hi); (try clear ho0)) | ((with_reducible refine gate_dst (N := 3) rfl ?_); refine box_event ?hg (N := 3) ?hd (cs := #[.slice none 0 0]) (t := 24) ?hr ?_; (case hd => rfl); (case hg => rfl); (case hr => first | (go_simp; done) | (go_simp; rfl)); intro gb342 hg w7 hbox hb; have n0_ := Aside0.mk (Kd.S_below (sS HO340.out) hb); have n1_ := Aside0.mk (below_step (sL HB.out) hb); have n2_ := Aside0.mk (hbox); have n3_ := Aside0.mk ((by rw [hg]; exact (below_size (sL HB.out)) : w.heap.size ≤ gb342)); have n4_ := Aside0.mk ((by rw [hg]; exact (below_size (sL HB.out)) : w.heap.size ≤ gb342)); clear HO340; clear HB; have HO340 := n0_; have HB := n1_; have BK342 := n2_; have GW342 := n3_; have GE342 := n4_; clear n0_ n1_ n2_ n3_ n4_; clear hb hbox hg; obtain ⟨Ao8, co8, eo8⟩ := Kd.S_slice HO340.out; subst eo8; have hcz9_0 : w7.cell? ⟨gb342, 0, none⟩ = some (.slice none 0 0) := (blk_cell BK342.out 0).trans rfl; have hfz9_0 := blk_frozen BK342.out 0) | ((with_reducible refine gate_callee (f := 14) rfl ?_); refine goesL_ (some 14) rfl rfl Tryz.func14 (by kernel_rfl) rfl #[.agg #[.slice Ao8 t338.length co8]] rfl sM ?_; (with_reducible refine (span_Print.calls k _ _ t338 t343 true _ ?side1 ?side2 A3.out (sH hLD HB.out)).mono ?_); (case side1 => refine (Kd.S_reads' (e := 38) (base := w.heap.size) (ok := fun k_ => True) (n := t338.length) (c := co8) ?_).2.2; exact (by refine sS ?_; exact (Kd.S_mono (Kd.S_far (p := ⟨gb342, 0, none⟩) (Kd.S_types HO340.out BK342.out (by decide)) (fun _ hk => hk.2) (.slice Ao8 t338.length co8)) (fun _ h_ => h_.1)))); (case side2 => exact (Kd.S_reads' HO340.out).2.1); rintro e w10 ⟨rfl, hb⟩; refine ⟨_, rfl, ?_⟩; have n0_ := Aside0.mk (Kd.S_below (by refine sS ?_; exact (Kd.S_mono (Kd.S_far (p := ⟨gb342, 0, none⟩) (Kd.S_types HO340.out BK342.out (by decide)) (fun _ hk => hk.2) (.slice Ao8 t338.length co8)) (fun _ h_ => h_.1))) hb); have n1_ := Aside0.mk (blk_below (g := gb342) (o := .cells #[.slice Ao8 t338.length co8] 24 (0, 0)) (by refine sB ?_; refine blk_put (cs := #[.slice none 0 0]) ?_ 0 _ rfl; refine sB ?_; exact BK342.out) hb); have n2_ := Aside0.mk (below_step (sL1 HB.out GE342.out) hb); clear HO340; clear BK342; clear HB; have HO340 := n0_; have BK342 := n1_; have HB := n2_; clear n0_ n1_ n2_; (try clear hb); (try clear hb2); (try clear hk); (try clear hi)));go_ret;exact ⟨by first | rfl | (simp [errW_none, errW_some] <;> rfl) | (simp [*, errW_none, errW_some] <;> rfl), sL1 HB.out GE342.out⟩
  ·replace c5 := Bool.eq_false_iff.mpr c5;subst c5;(have H1 : (some (⟨#[110, 111, 110, 101]⟩ : ByteArray)) = some r := by rw [if_neg (show ¬ (false = true) by decide)] at H; exact H);clear H;have H := H1;clear H1;obtain rfl := Option.some.inj H;(go_enter Tryz.func33, Tryz.ntmps33);go_wp2_with (first | ((with_reducible refine gate_callee (f := 12) rfl ?_); refine goesL_ (some 9) rfl rfl Tryz.func12 (by kernel_rfl) rfl #[.string a0] rfl sM ?_; (with_reducible refine (span_Parse.calls k a0 t338 true _ A2.out (sH hLD HB.out)).mono ?_); rintro e w11 ⟨v339, rfl, ho0, hb⟩; refine ⟨_, rfl, ?_⟩; have n0_ := Aside0.mk (Kd.S_lower ho0 (below_size (sL HB.out))); have n1_ := Aside0.mk (below_step (sL HB.out) hb); clear HB; have HO340 := n0_; have HB := n1_; clear n0_ n1_; (try clear hb); (try clear hb2); (try clear hk); (try clear hi); (try clear ho0)) | ((with_reducible refine gate_dst (N := 3) rfl ?_); refine box_event ?hg (N := 3) ?hd (cs := #[.slice none 0 0]) (t := 24) ?hr ?_; (case hd => rfl); (case hg => rfl); (case hr => first | (go_simp; done) | (go_simp; rfl)); intro gb342 hg w12 hbox hb; have n0_ := Aside0.mk (Kd.S_below (sS HO340.out) hb); have n1_ := Aside0.mk (below_step (sL HB.out) hb); have n2_ := Aside0.mk (hbox); have n3_ := Aside0.mk ((by rw [hg]; exact (below_size (sL HB.out)) : w.heap.size ≤ gb342)); have n4_ := Aside0.mk ((by rw [hg]; exact (below_size (sL HB.out)) : w.heap.size ≤ gb342)); clear HO340; clear HB; have HO340 := n0_; have HB := n1_; have BK342 := n2_; have GW342 := n3_; have GE342 := n4_; clear n0_ n1_ n2_ n3_ n4_; clear hb hbox hg; obtain ⟨Ao13, co13, eo13⟩ := Kd.S_slice HO340.out; subst eo13; have hcz14_0 : w12.cell? ⟨gb342, 0, none⟩ = some (.slice none 0 0) := (blk_cell BK342.out 0).trans rfl; have hfz14_0 := blk_frozen BK342.out 0) | ((with_reducible refine gate_callee (f := 14) rfl ?_); refine goesL_ (some 14) rfl rfl Tryz.func14 (by kernel_rfl) rfl #[.agg #[.slice Ao13 t338.length co13]] rfl sM ?_; (with_reducible refine (span_Print.calls k _ _ t338 t343 false _ ?side1 ?side2 A3.out (sH hLD HB.out)).mono ?_); (case side1 => refine (Kd.S_reads' (e := 38) (base := w.heap.size) (ok := fun k_ => True) (n := t338.length) (c := co13) ?_).2.2; exact (by refine sS ?_; exact (Kd.S_mono (Kd.S_far (p := ⟨gb342, 0, none⟩) (Kd.S_types HO340.out BK342.out (by decide)) (fun _ hk => hk.2) (.slice Ao13 t338.length co13)) (fun _ h_ => h_.1)))); (case side2 => exact (Kd.S_reads' HO340.out).2.1); rintro e w15 ⟨rfl, hb⟩; refine ⟨_, rfl, ?_⟩; have n0_ := Aside0.mk (Kd.S_below (by refine sS ?_; exact (Kd.S_mono (Kd.S_far (p := ⟨gb342, 0, none⟩) (Kd.S_types HO340.out BK342.out (by decide)) (fun _ hk => hk.2) (.slice Ao13 t338.length co13)) (fun _ h_ => h_.1))) hb); have n1_ := Aside0.mk (blk_below (g := gb342) (o := .cells #[.slice Ao13 t338.length co13] 24 (0, 0)) (by refine sB ?_; refine blk_put (cs := #[.slice none 0 0]) ?_ 0 _ rfl; refine sB ?_; exact BK342.out) hb); have n2_ := Aside0.mk (below_step (sL1 HB.out GE342.out) hb); clear HO340; clear BK342; clear HB; have HO340 := n0_; have BK342 := n1_; have HB := n2_; clear n0_ n1_ n2_; (try clear hb); (try clear hb2); (try clear hk); (try clear hi)));go_ret;exact ⟨by first | rfl | (simp [errW_none, errW_some] <;> rfl) | (simp [*, errW_none, errW_some] <;> rfl), sL1 HB.out GE342.out⟩
 ·replace c4 := Bool.eq_false_iff.mpr c4;subst c4;(have H1 : (some (⟨#[110, 111, 110, 101]⟩ : ByteArray)) = some r := by rw [if_neg (show ¬ (false = true) by decide)] at H; exact H);clear H;have H := H1;clear H1;obtain rfl := Option.some.inj H;(go_enter Tryz.func33, Tryz.ntmps33);go_wp2_with (first | ((with_reducible refine gate_callee (f := 12) rfl ?_); refine goesL_ (some 9) rfl rfl Tryz.func12 (by kernel_rfl) rfl #[.string a0] rfl sM ?_; (with_reducible refine (span_Parse.calls k a0 t338 false _ A2.out (sH hLD HB.out)).mono ?_); rintro e w16 ⟨v339, rfl, ho0, hb⟩; refine ⟨_, rfl, ?_⟩; have n0_ := Aside0.mk (Kd.S_lower ho0 (below_size (sL HB.out))); have n1_ := Aside0.mk (below_step (sL HB.out) hb); clear HB; have HO340 := n0_; have HB := n1_; clear n0_ n1_; (try clear hb); (try clear hb2); (try clear hk); (try clear hi); (try clear ho0)) | ((with_reducible refine gate_dst (N := 3) rfl ?_); refine box_event ?hg (N := 3) ?hd (cs := #[.slice none 0 0]) (t := 24) ?hr ?_; (case hd => rfl); (case hg => rfl); (case hr => first | (go_simp; done) | (go_simp; rfl)); intro gb342 hg w17 hbox hb; have n0_ := Aside0.mk (Kd.S_below (sS HO340.out) hb); have n1_ := Aside0.mk (below_step (sL HB.out) hb); have n2_ := Aside0.mk (hbox); have n3_ := Aside0.mk ((by rw [hg]; exact (below_size (sL HB.out)) : w.heap.size ≤ gb342)); have n4_ := Aside0.mk ((by rw [hg]; exact (below_size (sL HB.out)) : w.heap.size ≤ gb342)); clear HO340; clear HB; have HO340 := n0_; have HB := n1_; have BK342 := n2_; have GW342 := n3_; have GE342 := n4_; clear n0_ n1_ n2_ n3_ n4_; clear hb hbox hg; obtain ⟨Ao18, co18, eo18⟩ := Kd.S_slice HO340.out; subst eo18; have hcz19_0 : w17.cell? ⟨gb342, 0, none⟩ = some (.slice none 0 0) := (blk_cell BK342.out 0).trans rfl; have hfz19_0 := blk_frozen BK342.out 0) | ((with_reducible refine gate_callee (f := 14) rfl ?_); refine goesL_ (some 14) rfl rfl Tryz.func14 (by kernel_rfl) rfl #[.agg #[.slice Ao18 t338.length co18]] rfl sM ?_; (with_reducible refine (span_Print.calls k _ _ t338 t343 t344 _ ?side1 ?side2 A3.out (sH hLD HB.out)).mono ?_); (case side1 => refine (Kd.S_reads' (e := 38) (base := w.heap.size) (ok := fun k_ => True) (n := t338.length) (c := co18) ?_).2.2; exact (by refine sS ?_; exact (Kd.S_mono (Kd.S_far (p := ⟨gb342, 0, none⟩) (Kd.S_types HO340.out BK342.out (by decide)) (fun _ hk => hk.2) (.slice Ao18 t338.length co18)) (fun _ h_ => h_.1)))); (case side2 => exact (Kd.S_reads' HO340.out).2.1); rintro e w20 ⟨rfl, hb⟩; refine ⟨_, rfl, ?_⟩; have n0_ := Aside0.mk (Kd.S_below (by refine sS ?_; exact (Kd.S_mono (Kd.S_far (p := ⟨gb342, 0, none⟩) (Kd.S_types HO340.out BK342.out (by decide)) (fun _ hk => hk.2) (.slice Ao18 t338.length co18)) (fun _ h_ => h_.1))) hb); have n1_ := Aside0.mk (blk_below (g := gb342) (o := .cells #[.slice Ao18 t338.length co18] 24 (0, 0)) (by refine sB ?_; refine blk_put (cs := #[.slice none 0 0]) ?_ 0 _ rfl; refine sB ?_; exact BK342.out) hb); have n2_ := Aside0.mk (below_step (sL1 HB.out GE342.out) hb); clear HO340; clear BK342; clear HB; have HO340 := n0_; have BK342 := n1_; have HB := n2_; clear n0_ n1_ n2_; (try clear hb); (try clear hb2); (try clear hk); (try clear hi)));go_ret;exact ⟨by first | rfl | (simp [errW_none, errW_some] <;> rfl) | (simp [*, errW_none, errW_some] <;> rfl), sL1 HB.out GE342.out⟩
def hoggetlaw05_holds.f (k : Nat) (a0 : ByteArray) (a1 : ByteArray) : Option (Bool) := (span_Parse.f k a0).bind fun bt345 => ((version_Parse.f k a1).bind fun bt350 => (if bt345.2 = true then (if bt350.2.2.2.2 = true then ((span_Holds.f k bt345.1 bt350.1 bt350.2.1 bt350.2.2.1 bt350.2.2.2.1).bind fun t356 => (some t356)) else (some false)) else (some false)))
theorem hoggetlaw05_holds.calls (k : Nat) (a0 : ByteArray) (a1 : ByteArray) (r : Bool) (w : World) (h : hoggetlaw05_holds.f k a0 a1 = some r) (hLD : LD w) :
 Calls Tryz.prog 34 #[.string a0, .string a1] w fun e w' => e = .returned (.bool r) ∧ Below w.heap.size w w' := by
 have hu24 := Tryz.underlying24;have hu35 := Tryz.underlying35;have HB := Aside0.mk (Below.refl w.heap.size w);have H : ((span_Parse.f k a0).bind fun bt345 => ((version_Parse.f k a1).bind fun bt350 => (if bt345.2 = true then (if bt350.2.2.2.2 = true then ((span_Holds.f k bt345.1 bt350.1 bt350.2.1 bt350.2.2.1 bt350.2.2.2.1).bind fun t356 => (some t356)) else (some false)) else (some false)))) = some r := h;clear h;replace H := Option.bind_eq_some_iff.mp H;obtain ⟨⟨t345, t348⟩, A30, H⟩ := H;have A3 := Aside0.mk A30;clear A30;replace H := Option.bind_eq_some_iff.mp H;obtain ⟨⟨t350, t351, t352, t353, t354⟩, A40, H⟩ := H;have A4 := Aside0.mk A40;clear A40;by_cases c5 : t348 = true
 ·subst c5;(have H1 : (if t354 = true then ((span_Holds.f k t345 t350 t351 t352 t353).bind fun t356 => (some t356)) else (some false)) = some r := by rw [if_pos rfl] at H; exact H);clear H;have H := H1;clear H1;by_cases c6 : t354 = true
  ·subst c6;(have H1 : ((span_Holds.f k t345 t350 t351 t352 t353).bind fun t356 => (some t356)) = some r := by rw [if_pos rfl] at H; exact H);clear H;have H := H1;clear H1;replace H := Option.bind_eq_some_iff.mp H;obtain ⟨t356, A70, H⟩ := H;have A7 := Aside0.mk A70;clear A70;obtain rfl := Option.some.inj H;(go_enter Tryz.func34, Tryz.ntmps34);go_wp2_with (first | ((with_reducible refine gate_callee (f := 12) rfl ?_); refine goesL_ (some 11) rfl rfl Tryz.func12 (by kernel_rfl) rfl #[.string a0] rfl sM ?_; (with_reducible refine (span_Parse.calls k a0 t345 true _ A3.out (sH hLD HB.out)).mono ?_); rintro e w8 ⟨v346, rfl, ho0, hb⟩; refine ⟨_, rfl, ?_⟩; have n0_ := Aside0.mk (Kd.S_lower ho0 (below_size (sL HB.out))); have n1_ := Aside0.mk (below_step (sL HB.out) hb); clear HB; have HO347 := n0_; have HB := n1_; clear n0_ n1_; (try clear hb); (try clear hb2); (try clear hk); (try clear hi); (try clear ho0)) | ((with_reducible refine gate_dst (N := 5) rfl ?_); refine box_event ?hg (N := 5) ?hd (cs := #[.slice none 0 0]) (t := 24) ?hr ?_; (case hd => rfl); (case hg => rfl); (case hr => first | (go_simp; done) | (go_simp; rfl)); intro gb349 hg w9 hbox hb; have n0_ := Aside0.mk (Kd.S_below (sS HO347.out) hb); have n1_ := Aside0.mk (below_step (sL HB.out) hb); have n2_ := Aside0.mk (hbox); have n3_ := Aside0.mk ((by rw [hg]; exact (below_size (sL HB.out)) : w.heap.size ≤ gb349)); have n4_ := Aside0.mk ((by rw [hg]; exact (below_size (sL HB.out)) : w.heap.size ≤ gb349)); clear HO347; clear HB; have HO347 := n0_; have HB := n1_; have BK349 := n2_; have GW349 := n3_; have GE349 := n4_; clear n0_ n1_ n2_ n3_ n4_; clear hb hbox hg; obtain ⟨Ao10, co10, eo10⟩ := Kd.S_slice HO347.out; subst eo10; have hcz11_0 : w9.cell? ⟨gb349, 0, none⟩ = some (.slice none 0 0) := (blk_cell BK349.out 0).trans rfl; have hfz11_0 := blk_frozen BK349.out 0) | ((with_reducible refine gate_callee (f := 44) rfl ?_); refine goesL_ (some 16) rfl rfl Tryz.func44 (by kernel_rfl) rfl #[.string a1] rfl sM ?_; (with_reducible refine (version_Parse.calls k a1 t350 t351 t352 t353 true _ A4.out (sH hLD HB.out)).mono ?_); rintro e w12 ⟨rfl, hb⟩; refine ⟨_, rfl, ?_⟩; have n0_ := Aside0.mk (Kd.S_below (by refine sS ?_; exact (Kd.S_mono (Kd.S_far (p := ⟨gb349, 0, none⟩) (Kd.S_types HO347.out BK349.out (by decide)) (fun _ hk => hk.2) (.slice Ao10 t345.length co10)) (fun _ h_ => h_.1))) hb); have n1_ := Aside0.mk (blk_below (g := gb349) (o := .cells #[.slice Ao10 t345.length co10] 24 (0, 0)) (by refine sB ?_; refine blk_put (cs := #[.slice none 0 0]) ?_ 0 _ rfl; refine sB ?_; exact BK349.out) hb); have n2_ := Aside0.mk (below_step (sL1 HB.out GE349.out) hb); clear HO347; clear BK349; clear HB; have HO347 := n0_; have BK349 := n1_; have HB := n2_; clear n0_ n1_ n2_; (try clear hb); (try clear hb2); (try clear hk); (try clear hi)) | ((with_reducible refine gate_dst (N := 7) rfl ?_); refine box_event ?hg (N := 7) ?hd (cs := #[.int .i64 0, .int .i64 0, .int .i64 0, .string (⟨#[]⟩ : ByteArray)]) (t := 35) ?hr ?_; (case hd => rfl); (case hg => rfl); (case hr => first | (go_simp; done) | (go_simp; rfl)); intro gb355 hg w13 hbox hb; have n0_ := Aside0.mk (Kd.S_below (sS HO347.out) hb); have n1_ := Aside0.mk (blk_below (g := gb349) (o := .cells #[.slice Ao10 t345.length co10] 24 (0, 0)) (sB BK349.out) hb); have n2_ := Aside0.mk (below_step (sL1 HB.out GE349.out) hb); have n3_ := Aside0.mk (hbox); have n4_ := Aside0.mk ((by rw [hg]; exact (below_size (sL1 HB.out GE349.out)) : w.heap.size ≤ gb355)); have n5_ := Aside0.mk ((by rw [hg]; exact (below_size (sL1 HB.out GE349.out)) : w.heap.size ≤ gb355)); have n6_ := Aside0.mk ((by rw [hg]; exact Nat.ne_of_lt (blk_lt (g := gb349) (o := .cells #[.slice Ao10 t345.length co10] 24 (0, 0)) (sB BK349.out)) : gb349 ≠ gb355)); have n7_ := Aside0.mk ((by rw [hg]; exact Nat.ne_of_gt (blk_lt (g := gb349) (o := .cells #[.slice Ao10 t345.length co10] 24 (0, 0)) (sB BK349.out)) : gb355 ≠ gb349)); clear HO347; clear BK349; clear HB; have HO347 := n0_; have BK349 := n1_; have HB := n2_; have BK355 := n3_; have GW355 := n4_; have GE355 := n5_; have NB349_355 := n6_; have NB355_349 := n7_; clear n0_ n1_ n2_ n3_ n4_ n5_ n6_ n7_; clear hb hbox hg; have hnb14 := NB355_349.out; have hnc14 := NB349_355.out; have hcz15_0 : w13.cell? ⟨gb355, 0, none⟩ = some (.int .i64 0) := (blk_cell BK355.out 0).trans rfl; have hcz15_1 : w13.cell? ⟨gb355, 1, none⟩ = some (.int .i64 0) := (blk_cell BK355.out 1).trans rfl; have hcz15_2 : w13.cell? ⟨gb355, 2, none⟩ = some (.int .i64 0) := (blk_cell BK355.out 2).trans rfl; have hcz15_3 : w13.cell? ⟨gb355, 3, none⟩ = some (.string (⟨#[]⟩ : ByteArray)) := (blk_cell BK355.out 3).trans rfl; have hfz15_0 := blk_frozen BK355.out 0; have hfz15_1 := blk_frozen BK355.out 1; have hfz15_2 := blk_frozen BK355.out 2; have hfz15_3 := blk_frozen BK355.out 3; have hcz16_0 : w13.cell? ⟨gb349, 0, none⟩ = some (.slice Ao10 t345.length co10) := (blk_cell BK349.out 0).trans rfl; have hfz16_0 := blk_frozen BK349.out 0) | (go_at_call 19; (with_reducible refine (span_Holds.calls k _ _ t345 t350 t351 t352 t353 t356 _ ?side1 ?side2 A7.out (sH hLD HB.out)).mono ?_); (case side1 => refine (Kd.S_reads' (e := 38) (base := w.heap.size) (ok := fun k_ => True) (n := t345.length) (c := co10) ?_).2.2; exact (by refine sS ?_; exact (Kd.S_mono (Kd.S_far (p := ⟨gb355, 3, none⟩) (Kd.S_far (p := ⟨gb355, 2, none⟩) (Kd.S_far (p := ⟨gb355, 1, none⟩) (Kd.S_far (p := ⟨gb355, 0, none⟩) (Kd.S_types HO347.out BK355.out (by decide)) (fun _ hk => hk.2) (.int .i64 t350)) (fun _ hk => hk.2) (.int .i64 t351)) (fun _ hk => hk.2) (.int .i64 t352)) (fun _ hk => hk.2) (.string t353)) (fun _ h_ => h_.1)))); (case side2 => exact (Kd.S_reads' HO347.out).2.1); rintro e w17 ⟨rfl, hb⟩; have n0_ := Aside0.mk (Kd.S_below (by refine sS ?_; exact (Kd.S_mono (Kd.S_far (p := ⟨gb355, 3, none⟩) (Kd.S_far (p := ⟨gb355, 2, none⟩) (Kd.S_far (p := ⟨gb355, 1, none⟩) (Kd.S_far (p := ⟨gb355, 0, none⟩) (Kd.S_types HO347.out BK355.out (by decide)) (fun _ hk => hk.2) (.int .i64 t350)) (fun _ hk => hk.2) (.int .i64 t351)) (fun _ hk => hk.2) (.int .i64 t352)) (fun _ hk => hk.2) (.string t353)) (fun _ h_ => h_.1))) hb); have n1_ := Aside0.mk (blk_below (g := gb349) (o := .cells #[.slice Ao10 t345.length co10] 24 (0, 0)) (by refine sB ?_; refine blk_far ?_ NB349_355.out _; refine sB ?_; refine blk_far ?_ NB349_355.out _; refine sB ?_; refine blk_far ?_ NB349_355.out _; refine sB ?_; refine blk_far ?_ NB349_355.out _; refine sB ?_; exact BK349.out) hb); have n2_ := Aside0.mk (blk_below (g := gb355) (o := .cells #[.int .i64 t350, .int .i64 t351, .int .i64 t352, .string t353] 35 (0, 0)) (by refine sB ?_; refine blk_put (cs := #[.int .i64 t350, .int .i64 t351, .int .i64 t352, .string (⟨#[]⟩ : ByteArray)]) ?_ 3 _ rfl; refine sB ?_; refine blk_put (cs := #[.int .i64 t350, .int .i64 t351, .int .i64 0, .string (⟨#[]⟩ : ByteArray)]) ?_ 2 _ rfl; refine sB ?_; refine blk_put (cs := #[.int .i64 t350, .int .i64 0, .int .i64 0, .string (⟨#[]⟩ : ByteArray)]) ?_ 1 _ rfl; refine sB ?_; refine blk_put (cs := #[.int .i64 0, .int .i64 0, .int .i64 0, .string (⟨#[]⟩ : ByteArray)]) ?_ 0 _ rfl; refine sB ?_; exact BK355.out) hb); have n3_ := Aside0.mk (below_step (sL2 HB.out GE349.out GE355.out) hb); clear HO347; clear BK349; clear BK355; clear HB; have HO347 := n0_; have BK349 := n1_; have BK355 := n2_; have HB := n3_; clear n0_ n1_ n2_ n3_; (try clear hb); (try clear hb2); (try clear hk); (try clear hi)));go_ret;exact ⟨by first | rfl | (simp [errW_none, errW_some] <;> rfl) | (simp [*, errW_none, errW_some] <;> rfl), sL2 HB.out GE349.out GE355.out⟩
  ·replace c6 := Bool.eq_false_iff.mpr c6;subst c6;(have H1 : (some false) = some r := by rw [if_neg (show ¬ (false = true) by decide)] at H; exact H);clear H;have H := H1;clear H1;obtain rfl := Option.some.inj H;(go_enter Tryz.func34, Tryz.ntmps34);go_wp2_with (first | ((with_reducible refine gate_callee (f := 12) rfl ?_); refine goesL_ (some 11) rfl rfl Tryz.func12 (by kernel_rfl) rfl #[.string a0] rfl sM ?_; (with_reducible refine (span_Parse.calls k a0 t345 true _ A3.out (sH hLD HB.out)).mono ?_); rintro e w18 ⟨v346, rfl, ho0, hb⟩; refine ⟨_, rfl, ?_⟩; have n0_ := Aside0.mk (Kd.S_lower ho0 (below_size (sL HB.out))); have n1_ := Aside0.mk (below_step (sL HB.out) hb); clear HB; have HO347 := n0_; have HB := n1_; clear n0_ n1_; (try clear hb); (try clear hb2); (try clear hk); (try clear hi); (try clear ho0)) | ((with_reducible refine gate_dst (N := 5) rfl ?_); refine box_event ?hg (N := 5) ?hd (cs := #[.slice none 0 0]) (t := 24) ?hr ?_; (case hd => rfl); (case hg => rfl); (case hr => first | (go_simp; done) | (go_simp; rfl)); intro gb349 hg w19 hbox hb; have n0_ := Aside0.mk (Kd.S_below (sS HO347.out) hb); have n1_ := Aside0.mk (below_step (sL HB.out) hb); have n2_ := Aside0.mk (hbox); have n3_ := Aside0.mk ((by rw [hg]; exact (below_size (sL HB.out)) : w.heap.size ≤ gb349)); have n4_ := Aside0.mk ((by rw [hg]; exact (below_size (sL HB.out)) : w.heap.size ≤ gb349)); clear HO347; clear HB; have HO347 := n0_; have HB := n1_; have BK349 := n2_; have GW349 := n3_; have GE349 := n4_; clear n0_ n1_ n2_ n3_ n4_; clear hb hbox hg; obtain ⟨Ao20, co20, eo20⟩ := Kd.S_slice HO347.out; subst eo20; have hcz21_0 : w19.cell? ⟨gb349, 0, none⟩ = some (.slice none 0 0) := (blk_cell BK349.out 0).trans rfl; have hfz21_0 := blk_frozen BK349.out 0) | ((with_reducible refine gate_callee (f := 44) rfl ?_); refine goesL_ (some 16) rfl rfl Tryz.func44 (by kernel_rfl) rfl #[.string a1] rfl sM ?_; (with_reducible refine (version_Parse.calls k a1 t350 t351 t352 t353 false _ A4.out (sH hLD HB.out)).mono ?_); rintro e w22 ⟨rfl, hb⟩; refine ⟨_, rfl, ?_⟩; have n0_ := Aside0.mk (Kd.S_below (by refine sS ?_; exact (Kd.S_mono (Kd.S_far (p := ⟨gb349, 0, none⟩) (Kd.S_types HO347.out BK349.out (by decide)) (fun _ hk => hk.2) (.slice Ao20 t345.length co20)) (fun _ h_ => h_.1))) hb); have n1_ := Aside0.mk (blk_below (g := gb349) (o := .cells #[.slice Ao20 t345.length co20] 24 (0, 0)) (by refine sB ?_; refine blk_put (cs := #[.slice none 0 0]) ?_ 0 _ rfl; refine sB ?_; exact BK349.out) hb); have n2_ := Aside0.mk (below_step (sL1 HB.out GE349.out) hb); clear HO347; clear BK349; clear HB; have HO347 := n0_; have BK349 := n1_; have HB := n2_; clear n0_ n1_ n2_; (try clear hb); (try clear hb2); (try clear hk); (try clear hi)) | ((with_reducible refine gate_dst (N := 7) rfl ?_); refine box_event ?hg (N := 7) ?hd (cs := #[.int .i64 0, .int .i64 0, .int .i64 0, .string (⟨#[]⟩ : ByteArray)]) (t := 35) ?hr ?_; (case hd => rfl); (case hg => rfl); (case hr => first | (go_simp; done) | (go_simp; rfl)); intro gb355 hg w23 hbox hb; have n0_ := Aside0.mk (Kd.S_below (sS HO347.out) hb); have n1_ := Aside0.mk (blk_below (g := gb349) (o := .cells #[.slice Ao20 t345.length co20] 24 (0, 0)) (sB BK349.out) hb); have n2_ := Aside0.mk (below_step (sL1 HB.out GE349.out) hb); have n3_ := Aside0.mk (hbox); have n4_ := Aside0.mk ((by rw [hg]; exact (below_size (sL1 HB.out GE349.out)) : w.heap.size ≤ gb355)); have n5_ := Aside0.mk ((by rw [hg]; exact (below_size (sL1 HB.out GE349.out)) : w.heap.size ≤ gb355)); have n6_ := Aside0.mk ((by rw [hg]; exact Nat.ne_of_lt (blk_lt (g := gb349) (o := .cells #[.slice Ao20 t345.length co20] 24 (0, 0)) (sB BK349.out)) : gb349 ≠ gb355)); have n7_ := Aside0.mk ((by rw [hg]; exact Nat.ne_of_gt (blk_lt (g := gb349) (o := .cells #[.slice Ao20 t345.length co20] 24 (0, 0)) (sB BK349.out)) : gb355 ≠ gb349)); clear HO347; clear BK349; clear HB; have HO347 := n0_; have BK349 := n1_; have HB := n2_; have BK355 := n3_; have GW355 := n4_; have GE355 := n5_; have NB349_355 := n6_; have NB355_349 := n7_; clear n0_ n1_ n2_ n3_ n4_ n5_ n6_ n7_; clear hb hbox hg; have hnb24 := NB355_349.out; have hnc24 := NB349_355.out; have hcz25_0 : w23.cell? ⟨gb355, 0, none⟩ = some (.int .i64 0) := (blk_cell BK355.out 0).trans rfl; have hcz25_1 : w23.cell? ⟨gb355, 1, none⟩ = some (.int .i64 0) := (blk_cell BK355.out 1).trans rfl; have hcz25_2 : w23.cell? ⟨gb355, 2, none⟩ = some (.int .i64 0) := (blk_cell BK355.out 2).trans rfl; have hcz25_3 : w23.cell? ⟨gb355, 3, none⟩ = some (.string (⟨#[]⟩ : ByteArray)) := (blk_cell BK355.out 3).trans rfl; have hfz25_0 := blk_frozen BK355.out 0; have hfz25_1 := blk_frozen BK355.out 1; have hfz25_2 := blk_frozen BK355.out 2; have hfz25_3 := blk_frozen BK355.out 3));go_ret;exact ⟨by first | rfl | (simp [errW_none, errW_some] <;> rfl) | (simp [*, errW_none, errW_some] <;> rfl), sL2 HB.out GE349.out GE355.out⟩
 ·replace c5 := Bool.eq_false_iff.mpr c5;subst c5;(have H1 : (some false) = some r := by rw [if_neg (show ¬ (false = true) by decide)] at H; exact H);clear H;have H := H1;clear H1;obtain rfl := Option.some.inj H;(go_enter Tryz.func34, Tryz.ntmps34);go_wp2_with (first | ((with_reducible refine gate_callee (f := 12) rfl ?_); refine goesL_ (some 11) rfl rfl Tryz.func12 (by kernel_rfl) rfl #[.string a0] rfl sM ?_; (with_reducible refine (span_Parse.calls k a0 t345 false _ A3.out (sH hLD HB.out)).mono ?_); rintro e w26 ⟨v346, rfl, ho0, hb⟩; refine ⟨_, rfl, ?_⟩; have n0_ := Aside0.mk (Kd.S_lower ho0 (below_size (sL HB.out))); have n1_ := Aside0.mk (below_step (sL HB.out) hb); clear HB; have HO347 := n0_; have HB := n1_; clear n0_ n1_; (try clear hb); (try clear hb2); (try clear hk); (try clear hi); (try clear ho0)) | ((with_reducible refine gate_dst (N := 5) rfl ?_); refine box_event ?hg (N := 5) ?hd (cs := #[.slice none 0 0]) (t := 24) ?hr ?_; (case hd => rfl); (case hg => rfl); (case hr => first | (go_simp; done) | (go_simp; rfl)); intro gb349 hg w27 hbox hb; have n0_ := Aside0.mk (Kd.S_below (sS HO347.out) hb); have n1_ := Aside0.mk (below_step (sL HB.out) hb); have n2_ := Aside0.mk (hbox); have n3_ := Aside0.mk ((by rw [hg]; exact (below_size (sL HB.out)) : w.heap.size ≤ gb349)); have n4_ := Aside0.mk ((by rw [hg]; exact (below_size (sL HB.out)) : w.heap.size ≤ gb349)); clear HO347; clear HB; have HO347 := n0_; have HB := n1_; have BK349 := n2_; have GW349 := n3_; have GE349 := n4_; clear n0_ n1_ n2_ n3_ n4_; clear hb hbox hg; obtain ⟨Ao28, co28, eo28⟩ := Kd.S_slice HO347.out; subst eo28; have hcz29_0 : w27.cell? ⟨gb349, 0, none⟩ = some (.slice none 0 0) := (blk_cell BK349.out 0).trans rfl; have hfz29_0 := blk_frozen BK349.out 0) | ((with_reducible refine gate_callee (f := 44) rfl ?_); refine goesL_ (some 16) rfl rfl Tryz.func44 (by kernel_rfl) rfl #[.string a1] rfl sM ?_; (with_reducible refine (version_Parse.calls k a1 t350 t351 t352 t353 t354 _ A4.out (sH hLD HB.out)).mono ?_); rintro e w30 ⟨rfl, hb⟩; refine ⟨_, rfl, ?_⟩; have n0_ := Aside0.mk (Kd.S_below (by refine sS ?_; exact (Kd.S_mono (Kd.S_far (p := ⟨gb349, 0, none⟩) (Kd.S_types HO347.out BK349.out (by decide)) (fun _ hk => hk.2) (.slice Ao28 t345.length co28)) (fun _ h_ => h_.1))) hb); have n1_ := Aside0.mk (blk_below (g := gb349) (o := .cells #[.slice Ao28 t345.length co28] 24 (0, 0)) (by refine sB ?_; refine blk_put (cs := #[.slice none 0 0]) ?_ 0 _ rfl; refine sB ?_; exact BK349.out) hb); have n2_ := Aside0.mk (below_step (sL1 HB.out GE349.out) hb); clear HO347; clear BK349; clear HB; have HO347 := n0_; have BK349 := n1_; have HB := n2_; clear n0_ n1_ n2_; (try clear hb); (try clear hb2); (try clear hk); (try clear hi)) | ((with_reducible refine gate_dst (N := 7) rfl ?_); refine box_event ?hg (N := 7) ?hd (cs := #[.int .i64 0, .int .i64 0, .int .i64 0, .string (⟨#[]⟩ : ByteArray)]) (t := 35) ?hr ?_; (case hd => rfl); (case hg => rfl); (case hr => first | (go_simp; done) | (go_simp; rfl)); intro gb355 hg w31 hbox hb; have n0_ := Aside0.mk (Kd.S_below (sS HO347.out) hb); have n1_ := Aside0.mk (blk_below (g := gb349) (o := .cells #[.slice Ao28 t345.length co28] 24 (0, 0)) (sB BK349.out) hb); have n2_ := Aside0.mk (below_step (sL1 HB.out GE349.out) hb); have n3_ := Aside0.mk (hbox); have n4_ := Aside0.mk ((by rw [hg]; exact (below_size (sL1 HB.out GE349.out)) : w.heap.size ≤ gb355)); have n5_ := Aside0.mk ((by rw [hg]; exact (below_size (sL1 HB.out GE349.out)) : w.heap.size ≤ gb355)); have n6_ := Aside0.mk ((by rw [hg]; exact Nat.ne_of_lt (blk_lt (g := gb349) (o := .cells #[.slice Ao28 t345.length co28] 24 (0, 0)) (sB BK349.out)) : gb349 ≠ gb355)); have n7_ := Aside0.mk ((by rw [hg]; exact Nat.ne_of_gt (blk_lt (g := gb349) (o := .cells #[.slice Ao28 t345.length co28] 24 (0, 0)) (sB BK349.out)) : gb355 ≠ gb349)); clear HO347; clear BK349; clear HB; have HO347 := n0_; have BK349 := n1_; have HB := n2_; have BK355 := n3_; have GW355 := n4_; have GE355 := n5_; have NB349_355 := n6_; have NB355_349 := n7_; clear n0_ n1_ n2_ n3_ n4_ n5_ n6_ n7_; clear hb hbox hg; have hnb32 := NB355_349.out; have hnc32 := NB349_355.out; have hcz33_0 : w31.cell? ⟨gb355, 0, none⟩ = some (.int .i64 0) := (blk_cell BK355.out 0).trans rfl; have hcz33_1 : w31.cell? ⟨gb355, 1, none⟩ = some (.int .i64 0) := (blk_cell BK355.out 1).trans rfl; have hcz33_2 : w31.cell? ⟨gb355, 2, none⟩ = some (.int .i64 0) := (blk_cell BK355.out 2).trans rfl; have hcz33_3 : w31.cell? ⟨gb355, 3, none⟩ = some (.string (⟨#[]⟩ : ByteArray)) := (blk_cell BK355.out 3).trans rfl; have hfz33_0 := blk_frozen BK355.out 0; have hfz33_1 := blk_frozen BK355.out 1; have hfz33_2 := blk_frozen BK355.out 2; have hfz33_3 := blk_frozen BK355.out 3));go_ret;exact ⟨by first | rfl | (simp [errW_none, errW_some] <;> rfl) | (simp [*, errW_none, errW_some] <;> rfl), sL2 HB.out GE349.out GE355.out⟩
def hoggetlaw05_spans.j0 : Nat → Bool → Option (Bool)
  | 0, _ => none
  | k + 1, x1 => if x1 = true then ((hoggetlaw05_holds.f k (⟨#[94, 49, 46, 50, 46, 51]⟩ : ByteArray) (⟨#[49, 46, 50, 46, 52, 45, 97]⟩ : ByteArray)).bind fun t363 => (if t363 = true then (none) else ((hoggetlaw05_holds.f k (⟨#[94, 49, 46, 50, 46, 51]⟩ : ByteArray) (⟨#[49, 46, 57, 46, 48]⟩ : ByteArray)).bind fun t364 => (if t364 = true then ((hoggetlaw05_holds.f k (⟨#[62, 61, 49, 46, 50, 46, 51, 45, 97]⟩ : ByteArray) (⟨#[49, 46, 50, 46, 51, 45, 98]⟩ : ByteArray)).bind fun t365 => (if t365 = true then ((hoggetlaw05_word.f k (⟨#[49, 46, 48]⟩ : ByteArray)).bind fun t366 => (if t366.toList = ([110, 111, 110, 101] : List UInt8) then ((hoggetlaw05_word.f k (⟨#[94, 57, 57, 57, 57, 57, 57, 46, 48, 46, 48]⟩ : ByteArray)).bind fun t367 => (some (t367.toList == ([110, 111, 110, 101] : List UInt8)))) else (none))) else (none))) else (none))))) else (none)
def hoggetlaw05_spans.f (k : Nat)  : Option (Bool) := (hoggetlaw05_word.f k (⟨#[94, 49, 46, 50, 46, 51]⟩ : ByteArray)).bind fun t357 => (if t357.toList = ([62, 61, 49, 46, 50, 46, 51, 32, 60, 50, 46, 48, 46, 48] : List UInt8) then ((hoggetlaw05_word.f k (⟨#[94, 48, 46, 50, 46, 51]⟩ : ByteArray)).bind fun t358 => (if t358.toList = ([62, 61, 48, 46, 50, 46, 51, 32, 60, 48, 46, 51, 46, 48] : List UInt8) then ((hoggetlaw05_word.f k (⟨#[94, 48, 46, 48, 46, 51]⟩ : ByteArray)).bind fun t359 => (if t359.toList = ([62, 61, 48, 46, 48, 46, 51, 32, 60, 48, 46, 48, 46, 52] : List UInt8) then ((hoggetlaw05_word.f k (⟨#[126, 49, 46, 50, 46, 51]⟩ : ByteArray)).bind fun t360 => (if t360.toList = ([62, 61, 49, 46, 50, 46, 51, 32, 60, 49, 46, 51, 46, 48] : List UInt8) then ((hoggetlaw05_word.f k (⟨#[]⟩ : ByteArray)).bind fun t361 => (if t361.toList = ([42] : List UInt8) then ((hoggetlaw05_word.f k (⟨#[49, 46, 48, 46, 48, 124, 124, 62, 50, 46, 48, 46, 48, 32, 42]⟩ : ByteArray)).bind fun t362 => (hoggetlaw05_spans.j0 k (t362.toList == ([61, 49, 46, 48, 46, 48, 32, 124, 124, 32, 62, 50, 46, 48, 46, 48] : List UInt8)))) else (hoggetlaw05_spans.j0 k false))) else (hoggetlaw05_spans.j0 k false))) else (hoggetlaw05_spans.j0 k false))) else (hoggetlaw05_spans.j0 k false))) else (hoggetlaw05_spans.j0 k false))
theorem hoggetlaw05_spans.calls (k : Nat)  (r : Bool) (w : World) (h : hoggetlaw05_spans.f k  = some r) (hLD : LD w) :
 Calls Tryz.prog 16 #[] w fun e w' => e = .returned (.bool r) ∧ Below w.heap.size w w' := by
 have HB := Aside0.mk (Below.refl w.heap.size w);have H : ((hoggetlaw05_word.f k (⟨#[94, 49, 46, 50, 46, 51]⟩ : ByteArray)).bind fun t357 => (if t357.toList = ([62, 61, 49, 46, 50, 46, 51, 32, 60, 50, 46, 48, 46, 48] : List UInt8) then ((hoggetlaw05_word.f k (⟨#[94, 48, 46, 50, 46, 51]⟩ : ByteArray)).bind fun t358 => (if t358.toList = ([62, 61, 48, 46, 50, 46, 51, 32, 60, 48, 46, 51, 46, 48] : List UInt8) then ((hoggetlaw05_word.f k (⟨#[94, 48, 46, 48, 46, 51]⟩ : ByteArray)).bind fun t359 => (if t359.toList = ([62, 61, 48, 46, 48, 46, 51, 32, 60, 48, 46, 48, 46, 52] : List UInt8) then ((hoggetlaw05_word.f k (⟨#[126, 49, 46, 50, 46, 51]⟩ : ByteArray)).bind fun t360 => (if t360.toList = ([62, 61, 49, 46, 50, 46, 51, 32, 60, 49, 46, 51, 46, 48] : List UInt8) then ((hoggetlaw05_word.f k (⟨#[]⟩ : ByteArray)).bind fun t361 => (if t361.toList = ([42] : List UInt8) then ((hoggetlaw05_word.f k (⟨#[49, 46, 48, 46, 48, 124, 124, 62, 50, 46, 48, 46, 48, 32, 42]⟩ : ByteArray)).bind fun t362 => (hoggetlaw05_spans.j0 k (t362.toList == ([61, 49, 46, 48, 46, 48, 32, 124, 124, 32, 62, 50, 46, 48, 46, 48] : List UInt8)))) else (hoggetlaw05_spans.j0 k false))) else (hoggetlaw05_spans.j0 k false))) else (hoggetlaw05_spans.j0 k false))) else (hoggetlaw05_spans.j0 k false))) else (hoggetlaw05_spans.j0 k false))) = some r := h;clear h;have HC1 := Aside0.mk H;clear H;(go_enter Tryz.func16, Tryz.ntmps16);(go_upto_region 1 with (fail));go_cut [1] (fun v1 wc => ∃ (kq : Nat) (x1_0 : Bool), v1 = .bool x1_0 ∧ Aside0 (hoggetlaw05_spans.j0 kq x1_0 = some r) ∧ Aside0 (kq ≤ k) ∧ Aside0 (Below w.heap.size w wc))
 case first =>
  have H := HC1.out;clear HC1;replace H := Option.bind_eq_some_iff.mp H;obtain ⟨t357, A20, H⟩ := H;have A2 := Aside0.mk A20;clear A20;by_cases c3 : t357.toList = ([62, 61, 49, 46, 50, 46, 51, 32, 60, 50, 46, 48, 46, 48] : List UInt8)
  ·rw [if_pos c3] at H;have c3b0 := beq_iff_eq.mpr c3;have c3b1 := bne_eq_false_iff_eq.mpr c3;clear c3;(first | rw [c3b0] | (simp only [i64_w, i32_w]; rw [c3b0]) | skip);replace H := Option.bind_eq_some_iff.mp H;obtain ⟨t358, A40, H⟩ := H;have A4 := Aside0.mk A40;clear A40;by_cases c5 : t358.toList = ([62, 61, 48, 46, 50, 46, 51, 32, 60, 48, 46, 51, 46, 48] : List UInt8)
   ·rw [if_pos c5] at H;have c5b0 := beq_iff_eq.mpr c5;have c5b1 := bne_eq_false_iff_eq.mpr c5;clear c5;replace H := Option.bind_eq_some_iff.mp H;obtain ⟨t359, A60, H⟩ := H;have A6 := Aside0.mk A60;clear A60;by_cases c7 : t359.toList = ([62, 61, 48, 46, 48, 46, 51, 32, 60, 48, 46, 48, 46, 52] : List UInt8)
    ·rw [if_pos c7] at H;have c7b0 := beq_iff_eq.mpr c7;have c7b1 := bne_eq_false_iff_eq.mpr c7;clear c7;replace H := Option.bind_eq_some_iff.mp H;obtain ⟨t360, A80, H⟩ := H;have A8 := Aside0.mk A80;clear A80;by_cases c9 : t360.toList = ([62, 61, 49, 46, 50, 46, 51, 32, 60, 49, 46, 51, 46, 48] : List UInt8)
     ·rw [if_pos c9] at H;have c9b0 := beq_iff_eq.mpr c9;have c9b1 := bne_eq_false_iff_eq.mpr c9;clear c9;replace H := Option.bind_eq_some_iff.mp H;obtain ⟨t361, A100, H⟩ := H;have A10 := Aside0.mk A100;clear A100;by_cases c11 : t361.toList = ([42] : List UInt8)
      ·rw [if_pos c11] at H;have c11b0 := beq_iff_eq.mpr c11;have c11b1 := bne_eq_false_iff_eq.mpr c11;clear c11;replace H := Option.bind_eq_some_iff.mp H;obtain ⟨t362, A120, H⟩ := H;have A12 := Aside0.mk A120;clear A120;have H' := Aside0.mk H;clear H;go_wp2_with (first | ((with_reducible refine gate_callee (f := 33) rfl ?_); refine goesL_ (some 2) rfl rfl Tryz.func33 (by kernel_rfl) rfl #[.string (⟨#[94, 49, 46, 50, 46, 51]⟩ : ByteArray)] rfl sM ?_; (with_reducible refine (hoggetlaw05_word.calls k (⟨#[94, 49, 46, 50, 46, 51]⟩ : ByteArray) t357 _ A2.out (sH hLD HB.out)).mono ?_); rintro e w13 ⟨rfl, hb⟩; refine ⟨_, rfl, ?_⟩; have n0_ := Aside0.mk (below_step (sL HB.out) hb); clear HB; have HB := n0_; clear n0_; (try clear hb); (try clear hb2); (try clear hk); (try clear hi)) | (go_at_call 33; (with_reducible refine (hoggetlaw05_word.calls k (⟨#[94, 48, 46, 50, 46, 51]⟩ : ByteArray) t358 _ A4.out (sH hLD HB.out)).mono ?_); rintro e w14 ⟨rfl, hb⟩; have n0_ := Aside0.mk (below_step (sL HB.out) hb); clear HB; have HB := n0_; clear n0_; (try clear hb); (try clear hb2); (try clear hk); (try clear hi)) | (go_at_call 33; (with_reducible refine (hoggetlaw05_word.calls k (⟨#[94, 48, 46, 48, 46, 51]⟩ : ByteArray) t359 _ A6.out (sH hLD HB.out)).mono ?_); rintro e w15 ⟨rfl, hb⟩; have n0_ := Aside0.mk (below_step (sL HB.out) hb); clear HB; have HB := n0_; clear n0_; (try clear hb); (try clear hb2); (try clear hk); (try clear hi)) | (go_at_call 33; (with_reducible refine (hoggetlaw05_word.calls k (⟨#[126, 49, 46, 50, 46, 51]⟩ : ByteArray) t360 _ A8.out (sH hLD HB.out)).mono ?_); rintro e w16 ⟨rfl, hb⟩; have n0_ := Aside0.mk (below_step (sL HB.out) hb); clear HB; have HB := n0_; clear n0_; (try clear hb); (try clear hb2); (try clear hk); (try clear hi)) | (go_at_call 33; (with_reducible refine (hoggetlaw05_word.calls k (⟨#[]⟩ : ByteArray) t361 _ A10.out (sH hLD HB.out)).mono ?_); rintro e w17 ⟨rfl, hb⟩; have n0_ := Aside0.mk (below_step (sL HB.out) hb); clear HB; have HB := n0_; clear n0_; (try clear hb); (try clear hb2); (try clear hk); (try clear hi)) | (go_at_call 33; (with_reducible refine (hoggetlaw05_word.calls k (⟨#[49, 46, 48, 46, 48, 124, 124, 62, 50, 46, 48, 46, 48, 32, 42]⟩ : ByteArray) t362 _ A12.out (sH hLD HB.out)).mono ?_); rintro e w18 ⟨rfl, hb⟩; have n0_ := Aside0.mk (below_step (sL HB.out) hb); clear HB; have HB := n0_; clear n0_; (try clear hb); (try clear hb2); (try clear hk); (try clear hi)));go_meet;(case rel => exact ⟨_, ((t362.toList == ([61, 49, 46, 48, 46, 48, 32, 124, 124, 32, 62, 50, 46, 48, 46, 48] : List UInt8))), sE, H', ⟨by first | omega | exact Nat.le_refl _⟩, ⟨sL HB.out⟩⟩)
      ·rw [if_neg c11] at H;have c11b0 := beq_eq_false_iff_ne.mpr c11;have c11b1 := bne_iff_ne.mpr c11;have H' := Aside0.mk H;clear H;go_wp2_with (first | ((with_reducible refine gate_callee (f := 33) rfl ?_); refine goesL_ (some 2) rfl rfl Tryz.func33 (by kernel_rfl) rfl #[.string (⟨#[94, 49, 46, 50, 46, 51]⟩ : ByteArray)] rfl sM ?_; (with_reducible refine (hoggetlaw05_word.calls k (⟨#[94, 49, 46, 50, 46, 51]⟩ : ByteArray) t357 _ A2.out (sH hLD HB.out)).mono ?_); rintro e w19 ⟨rfl, hb⟩; refine ⟨_, rfl, ?_⟩; have n0_ := Aside0.mk (below_step (sL HB.out) hb); clear HB; have HB := n0_; clear n0_; (try clear hb); (try clear hb2); (try clear hk); (try clear hi)) | (go_at_call 33; (with_reducible refine (hoggetlaw05_word.calls k (⟨#[94, 48, 46, 50, 46, 51]⟩ : ByteArray) t358 _ A4.out (sH hLD HB.out)).mono ?_); rintro e w20 ⟨rfl, hb⟩; have n0_ := Aside0.mk (below_step (sL HB.out) hb); clear HB; have HB := n0_; clear n0_; (try clear hb); (try clear hb2); (try clear hk); (try clear hi)) | (go_at_call 33; (with_reducible refine (hoggetlaw05_word.calls k (⟨#[94, 48, 46, 48, 46, 51]⟩ : ByteArray) t359 _ A6.out (sH hLD HB.out)).mono ?_); rintro e w21 ⟨rfl, hb⟩; have n0_ := Aside0.mk (below_step (sL HB.out) hb); clear HB; have HB := n0_; clear n0_; (try clear hb); (try clear hb2); (try clear hk); (try clear hi)) | (go_at_call 33; (with_reducible refine (hoggetlaw05_word.calls k (⟨#[126, 49, 46, 50, 46, 51]⟩ : ByteArray) t360 _ A8.out (sH hLD HB.out)).mono ?_); rintro e w22 ⟨rfl, hb⟩; have n0_ := Aside0.mk (below_step (sL HB.out) hb); clear HB; have HB := n0_; clear n0_; (try clear hb); (try clear hb2); (try clear hk); (try clear hi)) | (go_at_call 33; (with_reducible refine (hoggetlaw05_word.calls k (⟨#[]⟩ : ByteArray) t361 _ A10.out (sH hLD HB.out)).mono ?_); rintro e w23 ⟨rfl, hb⟩; have n0_ := Aside0.mk (below_step (sL HB.out) hb); clear HB; have HB := n0_; clear n0_; (try clear hb); (try clear hb2); (try clear hk); (try clear hi)));go_meet;(case rel => exact ⟨_, (false), sE, H', ⟨by first | omega | exact Nat.le_refl _⟩, ⟨sL HB.out⟩⟩)
     ·rw [if_neg c9] at H;have c9b0 := beq_eq_false_iff_ne.mpr c9;have c9b1 := bne_iff_ne.mpr c9;have H' := Aside0.mk H;clear H;go_wp2_with (first | ((with_reducible refine gate_callee (f := 33) rfl ?_); refine goesL_ (some 2) rfl rfl Tryz.func33 (by kernel_rfl) rfl #[.string (⟨#[94, 49, 46, 50, 46, 51]⟩ : ByteArray)] rfl sM ?_; (with_reducible refine (hoggetlaw05_word.calls k (⟨#[94, 49, 46, 50, 46, 51]⟩ : ByteArray) t357 _ A2.out (sH hLD HB.out)).mono ?_); rintro e w24 ⟨rfl, hb⟩; refine ⟨_, rfl, ?_⟩; have n0_ := Aside0.mk (below_step (sL HB.out) hb); clear HB; have HB := n0_; clear n0_; (try clear hb); (try clear hb2); (try clear hk); (try clear hi)) | (go_at_call 33; (with_reducible refine (hoggetlaw05_word.calls k (⟨#[94, 48, 46, 50, 46, 51]⟩ : ByteArray) t358 _ A4.out (sH hLD HB.out)).mono ?_); rintro e w25 ⟨rfl, hb⟩; have n0_ := Aside0.mk (below_step (sL HB.out) hb); clear HB; have HB := n0_; clear n0_; (try clear hb); (try clear hb2); (try clear hk); (try clear hi)) | (go_at_call 33; (with_reducible refine (hoggetlaw05_word.calls k (⟨#[94, 48, 46, 48, 46, 51]⟩ : ByteArray) t359 _ A6.out (sH hLD HB.out)).mono ?_); rintro e w26 ⟨rfl, hb⟩; have n0_ := Aside0.mk (below_step (sL HB.out) hb); clear HB; have HB := n0_; clear n0_; (try clear hb); (try clear hb2); (try clear hk); (try clear hi)) | (go_at_call 33; (with_reducible refine (hoggetlaw05_word.calls k (⟨#[126, 49, 46, 50, 46, 51]⟩ : ByteArray) t360 _ A8.out (sH hLD HB.out)).mono ?_); rintro e w27 ⟨rfl, hb⟩; have n0_ := Aside0.mk (below_step (sL HB.out) hb); clear HB; have HB := n0_; clear n0_; (try clear hb); (try clear hb2); (try clear hk); (try clear hi)));go_meet;(case rel => exact ⟨_, (false), sE, H', ⟨by first | omega | exact Nat.le_refl _⟩, ⟨sL HB.out⟩⟩)
    ·rw [if_neg c7] at H;have c7b0 := beq_eq_false_iff_ne.mpr c7;have c7b1 := bne_iff_ne.mpr c7;have H' := Aside0.mk H;clear H;go_wp2_with (first | ((with_reducible refine gate_callee (f := 33) rfl ?_); refine goesL_ (some 2) rfl rfl Tryz.func33 (by kernel_rfl) rfl #[.string (⟨#[94, 49, 46, 50, 46, 51]⟩ : ByteArray)] rfl sM ?_; (with_reducible refine (hoggetlaw05_word.calls k (⟨#[94, 49, 46, 50, 46, 51]⟩ : ByteArray) t357 _ A2.out (sH hLD HB.out)).mono ?_); rintro e w28 ⟨rfl, hb⟩; refine ⟨_, rfl, ?_⟩; have n0_ := Aside0.mk (below_step (sL HB.out) hb); clear HB; have HB := n0_; clear n0_; (try clear hb); (try clear hb2); (try clear hk); (try clear hi)) | (go_at_call 33; (with_reducible refine (hoggetlaw05_word.calls k (⟨#[94, 48, 46, 50, 46, 51]⟩ : ByteArray) t358 _ A4.out (sH hLD HB.out)).mono ?_); rintro e w29 ⟨rfl, hb⟩; have n0_ := Aside0.mk (below_step (sL HB.out) hb); clear HB; have HB := n0_; clear n0_; (try clear hb); (try clear hb2); (try clear hk); (try clear hi)) | (go_at_call 33; (with_reducible refine (hoggetlaw05_word.calls k (⟨#[94, 48, 46, 48, 46, 51]⟩ : ByteArray) t359 _ A6.out (sH hLD HB.out)).mono ?_); rintro e w30 ⟨rfl, hb⟩; have n0_ := Aside0.mk (below_step (sL HB.out) hb); clear HB; have HB := n0_; clear n0_; (try clear hb); (try clear hb2); (try clear hk); (try clear hi)));go_meet;(case rel => exact ⟨_, (false), sE, H', ⟨by first | omega | exact Nat.le_refl _⟩, ⟨sL HB.out⟩⟩)
   ·rw [if_neg c5] at H;have c5b0 := beq_eq_false_iff_ne.mpr c5;have c5b1 := bne_iff_ne.mpr c5;have H' := Aside0.mk H;clear H;go_wp2_with (first | ((with_reducible refine gate_callee (f := 33) rfl ?_); refine goesL_ (some 2) rfl rfl Tryz.func33 (by kernel_rfl) rfl #[.string (⟨#[94, 49, 46, 50, 46, 51]⟩ : ByteArray)] rfl sM ?_; (with_reducible refine (hoggetlaw05_word.calls k (⟨#[94, 49, 46, 50, 46, 51]⟩ : ByteArray) t357 _ A2.out (sH hLD HB.out)).mono ?_); rintro e w31 ⟨rfl, hb⟩; refine ⟨_, rfl, ?_⟩; have n0_ := Aside0.mk (below_step (sL HB.out) hb); clear HB; have HB := n0_; clear n0_; (try clear hb); (try clear hb2); (try clear hk); (try clear hi)) | (go_at_call 33; (with_reducible refine (hoggetlaw05_word.calls k (⟨#[94, 48, 46, 50, 46, 51]⟩ : ByteArray) t358 _ A4.out (sH hLD HB.out)).mono ?_); rintro e w32 ⟨rfl, hb⟩; have n0_ := Aside0.mk (below_step (sL HB.out) hb); clear HB; have HB := n0_; clear n0_; (try clear hb); (try clear hb2); (try clear hk); (try clear hi)));go_meet;(case rel => exact ⟨_, (false), sE, H', ⟨by first | omega | exact Nat.le_refl _⟩, ⟨sL HB.out⟩⟩)
  ·rw [if_neg c3] at H;have c3b0 := beq_eq_false_iff_ne.mpr c3;have c3b1 := bne_iff_ne.mpr c3;(first | rw [c3b0] | (simp only [i64_w, i32_w]; rw [c3b0]) | skip);have H' := Aside0.mk H;clear H;go_wp2_with (first | ((with_reducible refine gate_callee (f := 33) rfl ?_); refine goesL_ (some 2) rfl rfl Tryz.func33 (by kernel_rfl) rfl #[.string (⟨#[94, 49, 46, 50, 46, 51]⟩ : ByteArray)] rfl sM ?_; (with_reducible refine (hoggetlaw05_word.calls k (⟨#[94, 49, 46, 50, 46, 51]⟩ : ByteArray) t357 _ A2.out (sH hLD HB.out)).mono ?_); rintro e w33 ⟨rfl, hb⟩; refine ⟨_, rfl, ?_⟩; have n0_ := Aside0.mk (below_step (sL HB.out) hb); clear HB; have HB := n0_; clear n0_; (try clear hb); (try clear hb2); (try clear hk); (try clear hi)));go_meet;(case rel => exact ⟨_, (false), sE, H', ⟨by first | omega | exact Nat.le_refl _⟩, ⟨sL HB.out⟩⟩)
 case rest =>
  clear HC1;(try clear c1);(try clear p2);(try clear c3);(try clear c3b0);(try clear c3b1);(try clear c5);(try clear c5b0);(try clear c5b1);(try clear c7);(try clear c7b0);(try clear c7b1);(try clear c9);(try clear c9b0);(try clear c9b1);(try clear c11);(try clear c11b0);(try clear c11b1);(try clear c16);(try clear c33);obtain ⟨kq, x1_0, rfl, HA, HJ0, HB⟩ := hcut
  cases kq with
  | zero => exact absurd HA.out (by simp [hoggetlaw05_spans.j0])
  | succ kj0 =>
   have H := HA.out;clear HA;simp only [hoggetlaw05_spans.j0] at H;by_cases c34 : x1_0 = true
   ·subst c34;(have H1 : ((hoggetlaw05_holds.f kj0 (⟨#[94, 49, 46, 50, 46, 51]⟩ : ByteArray) (⟨#[49, 46, 50, 46, 52, 45, 97]⟩ : ByteArray)).bind fun t363 => (if t363 = true then (none) else ((hoggetlaw05_holds.f kj0 (⟨#[94, 49, 46, 50, 46, 51]⟩ : ByteArray) (⟨#[49, 46, 57, 46, 48]⟩ : ByteArray)).bind fun t364 => (if t364 = true then ((hoggetlaw05_holds.f kj0 (⟨#[62, 61, 49, 46, 50, 46, 51, 45, 97]⟩ : ByteArray) (⟨#[49, 46, 50, 46, 51, 45, 98]⟩ : ByteArray)).bind fun t365 => (if t365 = true then ((hoggetlaw05_word.f kj0 (⟨#[49, 46, 48]⟩ : ByteArray)).bind fun t366 => (if t366.toList = ([110, 111, 110, 101] : List UInt8) then ((hoggetlaw05_word.f kj0 (⟨#[94, 57, 57, 57, 57, 57, 57, 46, 48, 46, 48]⟩ : ByteArray)).bind fun t367 => (some (t367.toList == ([110, 111, 110, 101] : List UInt8)))) else (none))) else (none))) else (none))))) = some r := by rw [if_pos rfl] at H; exact H);clear H;have H := H1;clear H1;replace H := Option.bind_eq_some_iff.mp H;obtain ⟨t363, A350, H⟩ := H;have A35 := Aside0.mk A350;clear A350;by_cases c36 : t363 = true
    ·subst c36;(have H1 : (none) = some r := by rw [if_pos rfl] at H; exact H);clear H;have H := H1;clear H1;exact absurd H (by simp)
    ·replace c36 := Bool.eq_false_iff.mpr c36;subst c36;(have H1 : ((hoggetlaw05_holds.f kj0 (⟨#[94, 49, 46, 50, 46, 51]⟩ : ByteArray) (⟨#[49, 46, 57, 46, 48]⟩ : ByteArray)).bind fun t364 => (if t364 = true then ((hoggetlaw05_holds.f kj0 (⟨#[62, 61, 49, 46, 50, 46, 51, 45, 97]⟩ : ByteArray) (⟨#[49, 46, 50, 46, 51, 45, 98]⟩ : ByteArray)).bind fun t365 => (if t365 = true then ((hoggetlaw05_word.f kj0 (⟨#[49, 46, 48]⟩ : ByteArray)).bind fun t366 => (if t366.toList = ([110, 111, 110, 101] : List UInt8) then ((hoggetlaw05_word.f kj0 (⟨#[94, 57, 57, 57, 57, 57, 57, 46, 48, 46, 48]⟩ : ByteArray)).bind fun t367 => (some (t367.toList == ([110, 111, 110, 101] : List UInt8)))) else (none))) else (none))) else (none))) = some r := by rw [if_neg (show ¬ (false = true) by decide)] at H; exact H);clear H;have H := H1;clear H1;replace H := Option.bind_eq_some_iff.mp H;obtain ⟨t364, A380, H⟩ := H;have A38 := Aside0.mk A380;clear A380;by_cases c39 : t364 = true
     ·subst c39;(have H1 : ((hoggetlaw05_holds.f kj0 (⟨#[62, 61, 49, 46, 50, 46, 51, 45, 97]⟩ : ByteArray) (⟨#[49, 46, 50, 46, 51, 45, 98]⟩ : ByteArray)).bind fun t365 => (if t365 = true then ((hoggetlaw05_word.f kj0 (⟨#[49, 46, 48]⟩ : ByteArray)).bind fun t366 => (if t366.toList = ([110, 111, 110, 101] : List UInt8) then ((hoggetlaw05_word.f kj0 (⟨#[94, 57, 57, 57, 57, 57, 57, 46, 48, 46, 48]⟩ : ByteArray)).bind fun t367 => (some (t367.toList == ([110, 111, 110, 101] : List UInt8)))) else (none))) else (none))) = some r := by rw [if_pos rfl] at H; exact H);clear H;have H := H1;clear H1;replace H := Option.bind_eq_some_iff.mp H;obtain ⟨t365, A400, H⟩ := H;have A40 := Aside0.mk A400;clear A400;by_cases c41 : t365 = true
      ·subst c41;(have H1 : ((hoggetlaw05_word.f kj0 (⟨#[49, 46, 48]⟩ : ByteArray)).bind fun t366 => (if t366.toList = ([110, 111, 110, 101] : List UInt8) then ((hoggetlaw05_word.f kj0 (⟨#[94, 57, 57, 57, 57, 57, 57, 46, 48, 46, 48]⟩ : ByteArray)).bind fun t367 => (some (t367.toList == ([110, 111, 110, 101] : List UInt8)))) else (none))) = some r := by rw [if_pos rfl] at H; exact H);clear H;have H := H1;clear H1;replace H := Option.bind_eq_some_iff.mp H;obtain ⟨t366, A420, H⟩ := H;have A42 := Aside0.mk A420;clear A420;by_cases c43 : t366.toList = ([110, 111, 110, 101] : List UInt8)
       ·rw [if_pos c43] at H;have c43b0 := beq_iff_eq.mpr c43;have c43b1 := bne_eq_false_iff_eq.mpr c43;clear c43;replace H := Option.bind_eq_some_iff.mp H;obtain ⟨t367, A440, H⟩ := H;have A44 := Aside0.mk A440;clear A440;obtain rfl := Option.some.inj H;go_wp2_with (first | (go_at_call 34; (with_reducible refine (hoggetlaw05_holds.calls kj0 (⟨#[94, 49, 46, 50, 46, 51]⟩ : ByteArray) (⟨#[49, 46, 50, 46, 52, 45, 97]⟩ : ByteArray) false _ A35.out (sH hLD HB.out)).mono ?_); rintro e w45 ⟨rfl, hb⟩; have n0_ := Aside0.mk (below_step (sL HB.out) hb); clear HB; have HB := n0_; clear n0_; (try clear hb); (try clear hb2); (try clear hk); (try clear hi)) | (go_at_call 34; (with_reducible refine (hoggetlaw05_holds.calls kj0 (⟨#[94, 49, 46, 50, 46, 51]⟩ : ByteArray) (⟨#[49, 46, 57, 46, 48]⟩ : ByteArray) true _ A38.out (sH hLD HB.out)).mono ?_); rintro e w46 ⟨rfl, hb⟩; have n0_ := Aside0.mk (below_step (sL HB.out) hb); clear HB; have HB := n0_; clear n0_; (try clear hb); (try clear hb2); (try clear hk); (try clear hi)) | (go_at_call 34; (with_reducible refine (hoggetlaw05_holds.calls kj0 (⟨#[62, 61, 49, 46, 50, 46, 51, 45, 97]⟩ : ByteArray) (⟨#[49, 46, 50, 46, 51, 45, 98]⟩ : ByteArray) true _ A40.out (sH hLD HB.out)).mono ?_); rintro e w47 ⟨rfl, hb⟩; have n0_ := Aside0.mk (below_step (sL HB.out) hb); clear HB; have HB := n0_; clear n0_; (try clear hb); (try clear hb2); (try clear hk); (try clear hi)) | (go_at_call 33; (with_reducible refine (hoggetlaw05_word.calls kj0 (⟨#[49, 46, 48]⟩ : ByteArray) t366 _ A42.out (sH hLD HB.out)).mono ?_); rintro e w48 ⟨rfl, hb⟩; have n0_ := Aside0.mk (below_step (sL HB.out) hb); clear HB; have HB := n0_; clear n0_; (try clear hb); (try clear hb2); (try clear hk); (try clear hi)) | (go_at_call 33; (with_reducible refine (hoggetlaw05_word.calls kj0 (⟨#[94, 57, 57, 57, 57, 57, 57, 46, 48, 46, 48]⟩ : ByteArray) t367 _ A44.out (sH hLD HB.out)).mono ?_); rintro e w49 ⟨rfl, hb⟩; have n0_ := Aside0.mk (below_step (sL HB.out) hb); clear HB; have HB := n0_; clear n0_; (try clear hb); (try clear hb2); (try clear hk); (try clear hi)));go_ret;exact ⟨by first | rfl | (simp [errW_none, errW_some] <;> rfl) | (simp [*, errW_none, errW_some] <;> rfl), sL HB.out⟩
       ·rw [if_neg c43] at H;have c43b0 := beq_eq_false_iff_ne.mpr c43;have c43b1 := bne_iff_ne.mpr c43;exact absurd H (by simp)
      ·replace c41 := Bool.eq_false_iff.mpr c41;subst c41;(have H1 : (none) = some r := by rw [if_neg (show ¬ (false = true) by decide)] at H; exact H);clear H;have H := H1;clear H1;exact absurd H (by simp)
     ·replace c39 := Bool.eq_false_iff.mpr c39;subst c39;(have H1 : (none) = some r := by rw [if_neg (show ¬ (false = true) by decide)] at H; exact H);clear H;have H := H1;clear H1;exact absurd H (by simp)
   ·replace c34 := Bool.eq_false_iff.mpr c34;subst c34;(have H1 : (none) = some r := by rw [if_neg (show ¬ (false = true) by decide)] at H; exact H);clear H;have H := H1;clear H1;exact absurd H (by simp)
end Go.Proofs.YtijooffpjfhidaaGreatDoor.G
end
