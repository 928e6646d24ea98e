/- Texts that the claims' laws stand on, put together by a program of this session (wip/prune.py): printed functions, their walks, and plain lemmas. -/
import Derived.Test.YtijooffpjfhidaaGreatDoorC2
set_option linter.unusedVariables false
set_option linter.unusedSimpArgs false
section
namespace Go.Proofs.YtijooffpjfhidaaGreatDoor.G
open Go.RowKit Go.Proofs.YtijooffpjfhidaaGreatDoorW.PrintWords Go.Proofs.YtijooffpjfhidaaGreatDoorW.PrintLast Go.Proofs.YtijooffpjfhidaaGreatDoorW.PrintMore
attribute [local go_sem] Go.Proofs.YtijooffpjfhidaaGreatDoor.Aid.gtr_string max2_int min2_int max_two min_two max_three min_three max_four min_four
set_option linter.unusedVariables false
set_option linter.unusedSimpArgs false
set_option maxHeartbeats 8000000
set_option maxRecDepth 100000
def span_Print.signs : List (Int × ByteArray) := [(3, ⟨#[60, 61]⟩), (5, ⟨#[62, 61]⟩), (2, ⟨#[60]⟩), (4, ⟨#[62]⟩), (1, ⟨#[61]⟩)]
def span_Print.sg (op : Int) (s : ByteArray) : List (Int × ByteArray) → List ByteArray → Option (List ByteArray)
  | [], ws => some ws
  | x :: xs, ws => if x.1 = op then (if x.2.size + s.size ≤ 9223372036854775807 then (if ws.length < 8796093022208 then span_Print.sg op s xs (ws ++ [x.2 ++ s]) else none) else none) else span_Print.sg op s xs ws
def span_Print.row (k : Nat) : List S45 → List ByteArray → Option (List ByteArray)
  | [], ws => some ws
  | b :: l, ws => (version_Print.f k b.f1.f0 b.f1.f1 b.f1.f2 b.f1.f3).bind fun p => (span_Print.sg b.f0 p.1 span_Print.signs ws).bind fun ws => span_Print.row k l ws
def span_Print.go (k : Nat) : List (List S45) → List ByteArray → Option (List ByteArray)
  | [], all => some all
  | l :: r, all => (span_Print.row k l []).bind fun ws => (strings_Join.f (if ws.length = 0 then [⟨#[42]⟩] else ws) ⟨#[32]⟩).bind fun t => if all.length < 8796093022208 then span_Print.go k r (all ++ [t]) else none
def span_Print.fin (all : List ByteArray) : Option (ByteArray × Bool) := (strings_Join.f all ⟨#[32, 124, 124, 32]⟩).bind fun t => some (t, true)
def span_Print.f (k : Nat) (l0_0 : List (List S45)) : Option (ByteArray × Bool) :=
  (span_right.f k l0_0).bind fun g => if g = false then some (⟨#[]⟩, false) else (span_Print.go k l0_0 []).bind span_Print.fin
def span_Print.add (k : Nat) (r : List (List S45)) (all ws : List ByteArray) : Option (ByteArray × Bool) := ((strings_Join.f (if ws.length = 0 then [⟨#[42]⟩] else ws) ⟨#[32]⟩).bind fun t => if all.length < 8796093022208 then span_Print.go k r (all ++ [t]) else none).bind span_Print.fin
def span_Print.mid (k : Nat) (x : List S45) (r : List (List S45)) (all ws : List ByteArray) : Option (ByteArray × Bool) := (span_Print.row k x ws).bind (span_Print.add k r all)
theorem span_Print.top_cons (k : Nat) (l : List S45) (r : List (List S45)) (all : List ByteArray) : (span_Print.go k (l :: r) all).bind span_Print.fin = span_Print.mid k l r all [] := by
  have : span_Print.add k r all = fun ws => span_Print.add k r all ws := rfl
  rw [span_Print.mid, this]
  simp only [span_Print.go, span_Print.add, Option.bind_assoc]
theorem span_Print.mid_cons (k : Nat) (b : S45) (x : List S45) (r : List (List S45)) (all ws : List ByteArray) : span_Print.mid k (b :: x) r all ws = (version_Print.f k b.f1.f0 b.f1.f1 b.f1.f2 b.f1.f3).bind fun p => (span_Print.sg b.f0 p.1 span_Print.signs ws).bind (span_Print.mid k x r all) := by
  have : span_Print.mid k x r all = fun ws => span_Print.mid k x r all ws := rfl
  rw [this]
  simp only [span_Print.row, span_Print.mid, Option.bind_assoc]
theorem span_Print.sig {w : World} (h : LD w) : w.cell? ⟨0, 0, none⟩ = some (.int .i64 3) ∧ w.cell? ⟨0, 1, none⟩ = some (.string ⟨#[60, 61]⟩) ∧ w.cell? ⟨0, 2, none⟩ = some (.int .i64 5) ∧ w.cell? ⟨0, 3, none⟩ = some (.string ⟨#[62, 61]⟩) ∧ w.cell? ⟨0, 4, none⟩ = some (.int .i64 2) ∧ w.cell? ⟨0, 5, none⟩ = some (.string ⟨#[60]⟩) ∧ w.cell? ⟨0, 6, none⟩ = some (.int .i64 4) ∧ w.cell? ⟨0, 7, none⟩ = some (.string ⟨#[62]⟩) ∧ w.cell? ⟨0, 8, none⟩ = some (.int .i64 1) ∧ w.cell? ⟨0, 9, none⟩ = some (.string ⟨#[61]⟩) := by
  have hg : Tryz.prog.globalNamed "hogget/span.signs" = some 0 := by kernel_rfl
  have hs := h.sig
  have hc : ∀ i, w.cell? ⟨0, i, none⟩ = (#[Value.int .i64 3, .string ⟨#[60, 61]⟩, .int .i64 5, .string ⟨#[62, 61]⟩, .int .i64 2, .string ⟨#[60]⟩, .int .i64 4, .string ⟨#[62]⟩, .int .i64 1, .string ⟨#[61]⟩])[i]? := fun i => by
    unfold World.var? at hs
    rw [hg] at hs
    simp only [Option.bind_some] at hs
    unfold World.cell?
    split at hs
    · rename_i cs tp hh
      obtain rfl := Option.some.inj hs
      rw [hh]
      first | rfl | simp
    · cases hs
  exact ⟨hc 0, hc 1, hc 2, hc 3, hc 4, hc 5, hc 6, hc 7, hc 8, hc 9⟩
theorem span_Print.keep {w W : World} {o : Obj} (hb : Below (w.alloc o).heap.size (w.alloc o) W) : W.heap[w.heap.size]? = some o ∧ Below w.heap.size w W := by
  have h0 : Below w.heap.size w (w.alloc o) := (Below.refl _ w).alloc (Nat.le_refl _) _
  refine ⟨?_, h0.trans (hb.mono (by simp))⟩
  rw [hb.block _ (by simp)]
  exact World.alloc_heap_new w _
theorem span_Print.idx0 (w : World) : (Instr.index 58 (.agg #[.int .i64 3, .string ⟨#[60, 61]⟩, .int .i64 5, .string ⟨#[62, 61]⟩, .int .i64 2, .string ⟨#[60]⟩, .int .i64 4, .string ⟨#[62]⟩, .int .i64 1, .string ⟨#[61]⟩]) (.int .i64 0)).run Tryz.prog w = .ok (.agg #[.int .i64 3, .string ⟨#[60, 61]⟩]) w := by
  have h : Tryz.prog.underlying 58 = some (.array 5 57) := by kernel_rfl
  simp [Instr.index, run_underlying h, asIntOf, go_sem]
theorem span_Print.idx1 (w : World) : (Instr.index 58 (.agg #[.int .i64 3, .string ⟨#[60, 61]⟩, .int .i64 5, .string ⟨#[62, 61]⟩, .int .i64 2, .string ⟨#[60]⟩, .int .i64 4, .string ⟨#[62]⟩, .int .i64 1, .string ⟨#[61]⟩]) (.int .i64 1)).run Tryz.prog w = .ok (.agg #[.int .i64 5, .string ⟨#[62, 61]⟩]) w := by
  have h : Tryz.prog.underlying 58 = some (.array 5 57) := by kernel_rfl
  simp [Instr.index, run_underlying h, asIntOf, go_sem]
theorem span_Print.idx2 (w : World) : (Instr.index 58 (.agg #[.int .i64 3, .string ⟨#[60, 61]⟩, .int .i64 5, .string ⟨#[62, 61]⟩, .int .i64 2, .string ⟨#[60]⟩, .int .i64 4, .string ⟨#[62]⟩, .int .i64 1, .string ⟨#[61]⟩]) (.int .i64 2)).run Tryz.prog w = .ok (.agg #[.int .i64 2, .string ⟨#[60]⟩]) w := by
  have h : Tryz.prog.underlying 58 = some (.array 5 57) := by kernel_rfl
  simp [Instr.index, run_underlying h, asIntOf, go_sem]
theorem span_Print.idx3 (w : World) : (Instr.index 58 (.agg #[.int .i64 3, .string ⟨#[60, 61]⟩, .int .i64 5, .string ⟨#[62, 61]⟩, .int .i64 2, .string ⟨#[60]⟩, .int .i64 4, .string ⟨#[62]⟩, .int .i64 1, .string ⟨#[61]⟩]) (.int .i64 3)).run Tryz.prog w = .ok (.agg #[.int .i64 4, .string ⟨#[62]⟩]) w := by
  have h : Tryz.prog.underlying 58 = some (.array 5 57) := by kernel_rfl
  simp [Instr.index, run_underlying h, asIntOf, go_sem]
theorem span_Print.idx4 (w : World) : (Instr.index 58 (.agg #[.int .i64 3, .string ⟨#[60, 61]⟩, .int .i64 5, .string ⟨#[62, 61]⟩, .int .i64 2, .string ⟨#[60]⟩, .int .i64 4, .string ⟨#[62]⟩, .int .i64 1, .string ⟨#[61]⟩]) (.int .i64 4)).run Tryz.prog w = .ok (.agg #[.int .i64 1, .string ⟨#[61]⟩]) w := by
  have h : Tryz.prog.underlying 58 = some (.array 5 57) := by kernel_rfl
  simp [Instr.index, run_underlying h, asIntOf, go_sem]
attribute [local go_sem] span_Print.idx0 span_Print.idx1 span_Print.idx2 span_Print.idx3 span_Print.idx4
section
open Lib
set_option maxRecDepth 100000 in
set_option maxHeartbeats 8000000 in
theorem span_Print.calls (k : Nat) (A0_0 : Option Addr) (c0_0 : Nat) (l0_0 : List (List (S45))) (r1 : ByteArray) (r2 : Bool) (w : World) (hr0_0 : Kd.C (Kd.slice 45 k45) w A0_0 l0_0.length l0_0) (hc0_0 : l0_0.length ≤ c0_0) (h : span_Print.f k l0_0 = some (r1, r2)) (hLD : LD w) :
 Calls Tryz.prog 14 #[.agg #[.slice A0_0 l0_0.length c0_0]] w fun e w' => e = .returned (.tuple #[.string r1, .bool r2]) ∧ Below w.heap.size w w' := by
 unfold span_Print.f at h;obtain ⟨g, hg, h⟩ := Option.bind_eq_some_iff.1 h;have hu1 := Tryz.underlying24;have hu2 := Tryz.underlying35;have hu3 := Tryz.underlying45
 have HK : Hid (∀ W, Below (w.alloc (.cells #[.slice A0_0 l0_0.length c0_0] 24)).heap.size (w.alloc (.cells #[.slice A0_0 l0_0.length c0_0] 24)) W →
  W.cell? ⟨w.heap.size, 0, none⟩ = some (.slice A0_0 l0_0.length c0_0) ∧ Below w.heap.size w W ∧ LD W) := Lib.hid (fun W hb => by
  obtain ⟨h1, h3⟩ := span_Print.keep hb
  exact ⟨span_Holds.cells h1 0 _ rfl, h3, hLD.below h3⟩)
 have CR : Hid (∀ W, Below w.heap.size w W → LD W → Calls Tryz.prog 26 #[.agg #[.slice A0_0 l0_0.length c0_0]] W fun e w' => e = .returned (.bool g) ∧ Below W.heap.size W w') := Lib.hid (fun W hb hl => span_right.calls k A0_0 c0_0 l0_0 g W (Kd.C_below hr0_0 hb) hc0_0 hg hl);have HR := Lib.hid hr0_0;have HC := Lib.hid hc0_0;have HG := Lib.hid h;obtain ⟨p0, hB0, hL0⟩ := HK.out _ (Below.refl _ _);clear hr0_0 hc0_0 hg h
 cases g with
 | false =>
  (have HG2 : (⟨#[]⟩, false) = (r1, r2) := by simpa using HG.out);obtain ⟨rfl, rfl⟩ := Prod.mk.inj HG2;(go_enter Tryz.func14, Tryz.ntmps14);go_wp2_with (first | (go_at_call 26; refine (CR.out _ hB0 hL0).mono ?_; rintro e w4 ⟨rfl, hb4⟩));go_ret2
  exact ⟨rfl, hB0.trans (hb4.mono hB0.size)⟩
 | true =>
  have HG2 : Hid ((span_Print.go k l0_0 []).bind span_Print.fin = some (r1, r2)) := Lib.hid (by simpa using HG.out);clear HG;(go_enter Tryz.func14, Tryz.ntmps14);go_wp2_with (first | (go_at_call 26; refine (CR.out _ hB0 hL0).mono ?_; rintro e w4 ⟨rfl, hb4⟩; have HB4 := Lib.hid hb4; clear p0 hB0 hL0 hb4; obtain ⟨p0, hB4, hL4⟩ := HK.out _ HB4.out))
  go_loopg [4, 20] l0_0.length (fun kq v4 v20 W => ∃ (i : Nat) (all : List ByteArray), v20 = .int .i64 (i : Nat) ∧ Hid (kq = l0_0.length - i ∧ i ≤ l0_0.length) ∧ Hid ((span_Print.go k (l0_0.drop i) all).bind span_Print.fin = some (r1, r2)) ∧
   Hid (Below (w.alloc (.cells #[.slice A0_0 l0_0.length c0_0] 24)).heap.size (w.alloc (.cells #[.slice A0_0 l0_0.length c0_0] 24)) W) ∧ Hid (Kd.R Kd.string 9 W (w.alloc (.cells #[.slice A0_0 l0_0.length c0_0] 24)).heap.size (fun _ => True) v4 all))
  (case atStart => exact ⟨0, [], rfl, Lib.hid ⟨rfl, Nat.zero_le _⟩, Lib.hid HG2.out, HB4, Lib.hid (Kd.R_nil _ _ _ _ _)⟩)
  case round =>
   clear p0 hB4 hL4 HB4;obtain ⟨i, all, rfl, Hi, Hg, HBW, HA⟩ := hrel;obtain ⟨p0, hBW, hLW⟩ := HK.out _ HBW.out;have hi := Hi.out.2;have hm : l0_0.length ≤ 9223372036854775807 := HR.out.2.1;by_cases hlt : i < l0_0.length
   ·obtain ⟨x, hx⟩ : ∃ x, l0_0[i]? = some x := ⟨_, List.getElem?_eq_getElem hlt⟩
    obtain ⟨rb, ro, A1, c1, hA, hcell0, hc1, hC1⟩ := span_Holds.at_row HR.out i x hx;have hcell := pw_cell_below hBW hcell0;clear hcell0;(have hd : l0_0.drop i = x :: l0_0.drop (i + 1) := by rw [List.drop_eq_getElem_cons hlt, (List.getElem?_eq_some_iff.1 hx).2]);have hg := Hg.out;rw [hd, span_Print.top_cons] at hg;have HGi := Lib.hid hg;have HC1 := Lib.hid hC1;have hm1 : x.length ≤ 9223372036854775807 := hC1.2.1;subst hA;clear hg hd hC1 hx Hg;go_wp2
    go_loopg [7, 26] x.length (fun kq v7 v26 W => ∃ (j : Nat) (ws : List ByteArray), v26 = .int .i64 (j : Nat) ∧ Hid (kq = x.length - j ∧ j ≤ x.length) ∧ Hid (span_Print.mid k (x.drop j) (l0_0.drop (i + 1)) all ws = some (r1, r2)) ∧
     Hid (Below (w.alloc (.cells #[.slice (some ⟨rb, ro, none⟩) l0_0.length c0_0] 24)).heap.size (w.alloc (.cells #[.slice (some ⟨rb, ro, none⟩) l0_0.length c0_0] 24)) W) ∧ Hid (Kd.R Kd.string 9 W (w.alloc (.cells #[.slice (some ⟨rb, ro, none⟩) l0_0.length c0_0] 24)).heap.size (fun k_ => some k_ ≠ v7.ownBlock) u4 all) ∧ Hid (Kd.R Kd.string 9 W (w.alloc (.cells #[.slice (some ⟨rb, ro, none⟩) l0_0.length c0_0] 24)).heap.size (fun k_ => some k_ ≠ u4.ownBlock) v7 ws))
    (case atStart => exact ⟨0, [], rfl, Lib.hid ⟨rfl, Nat.zero_le _⟩, Lib.hid HGi.out, HBW, Lib.hid (Kd.R_mono HA.out (fun _ _ => by simp [Value.ownBlock])), Lib.hid (Kd.R_nil _ _ _ _ _)⟩)
    case round =>
     clear p0 hBW hLW hcell HBW HA;(rename World => V);obtain ⟨j, ws, rfl, Hj, Hgj, HBV, HA, HW⟩ := hrel;obtain ⟨p0, hBV, hLV⟩ := HK.out _ HBV.out;have hj := Hj.out.2;by_cases hjlt : j < x.length
     ·obtain ⟨b, hbx⟩ : ∃ b, x[j]? = some b := ⟨_, List.getElem?_eq_getElem hjlt⟩
      obtain ⟨eb, eo, hA1, e0, e1, e2, e3, e4⟩ := span_Holds.at_bound (Kd.C_below HC1.out hBV) j b hbx;(have hdj : x.drop j = b :: x.drop (j + 1) := by rw [List.drop_eq_getElem_cons hjlt, (List.getElem?_eq_some_iff.1 hbx).2]);have hgj := Hgj.out;rw [hdj, span_Print.mid_cons] at hgj;obtain ⟨⟨s, os⟩, hs, hgk⟩ := Option.bind_eq_some_iff.1 hgj;clear hgj Hgj
      obtain ⟨⟨b0, ⟨b1, b2, b3, b4⟩⟩, hbe⟩ : ∃ y, b = y := ⟨_, rfl⟩
      subst hbe;simp only at e0 e1 e2 e3 e4 hs hgk;have CP := Lib.hid (fun W hW => version_Print.calls k b1 b2 b3 b4 s os W hs hW);have HBA := Lib.hid (HBV.out.alloc HBV.out.size (Obj.cells #[.int .i64 b0, .int .i64 b1, .int .i64 b2, .int .i64 b3, .string b4] 45));subst hA1;obtain ⟨_, hBA, hLA⟩ := HK.out _ HBA.out;have Hgo := Lib.hid hgk;clear hgk hs hdj hbx;go_wp2_with (first | (go_at_call 21; refine (CP.out _ hLA).mono ?_; rintro e w7 ⟨rfl, hb7⟩; have HB7 := Lib.hid (HBA.out.trans (hb7.mono HBA.out.size)); have hk7 := (hb7.block _ (by simp)).trans (World.alloc_heap_new V _); have Hk7 := Lib.hid hk7; have hs7 := hb7.size; obtain ⟨_, hB7, hL7⟩ := HK.out _ HB7.out; have n0 := span_Holds.cells hk7 0 _ rfl; have n1 := span_Holds.cells hk7 1 _ rfl; have n2 := span_Holds.cells hk7 2 _ rfl; have n3 := span_Holds.cells hk7 3 _ rfl; have n4 := span_Holds.cells hk7 4 _ rfl; clear hk7; obtain ⟨g0, g1, g2, g3, g4, g5, g6, g7, g8, g9⟩ := span_Print.sig hL7; have HA7 := Lib.hid (Kd.R_below (Kd.R_alloc HA.out (Obj.cells #[.int .i64 b0, .int .i64 b1, .int .i64 b2, .int .i64 b3, .string b4] 45)) hb7); have HW7 := Lib.hid (Kd.R_below (Kd.R_alloc HW.out (Obj.cells #[.int .i64 b0, .int .i64 b1, .int .i64 b2, .int .i64 b3, .string b4] 45)) hb7)))
      go_loopg [7, 37] 5 (fun kq v7 v37 W => ∃ (n : Nat) (ws : List ByteArray), v37 = .int .i64 (n : Nat) ∧ Hid (kq = 5 - n ∧ n ≤ 5) ∧ Hid (((span_Print.sg b0 s (span_Print.signs.drop n) ws).bind (span_Print.mid k (x.drop (j + 1)) (l0_0.drop (i + 1)) all)) = some (r1, r2)) ∧
       Hid (Below (w.alloc (.cells #[.slice (some ⟨rb, ro, none⟩) l0_0.length c0_0] 24)).heap.size (w.alloc (.cells #[.slice (some ⟨rb, ro, none⟩) l0_0.length c0_0] 24)) W) ∧ Hid (W.heap[V.heap.size]? = some (.cells #[.int .i64 b0, .int .i64 b1, .int .i64 b2, .int .i64 b3, .string b4] 45 (0, 0))) ∧ Hid (Kd.R Kd.string 9 W (w.alloc (.cells #[.slice (some ⟨rb, ro, none⟩) l0_0.length c0_0] 24)).heap.size (fun k_ => some k_ ≠ v7.ownBlock) u4 all) ∧ Hid (Kd.R Kd.string 9 W (w.alloc (.cells #[.slice (some ⟨rb, ro, none⟩) l0_0.length c0_0] 24)).heap.size (fun k_ => some k_ ≠ u4.ownBlock ∧ k_ ≠ V.heap.size) v7 ws))
      (case atStart => exact ⟨0, ws, rfl, Lib.hid ⟨rfl, Nat.zero_le _⟩, Lib.hid Hgo.out, HB7, Hk7, HA7, Lib.hid (Kd.R_below (Kd.R_alloc (Kd.R_mono (Kd.R_bound HW.out) (fun _ hk => ⟨hk.1, by have := hk.2.2.1; omega⟩)) _) hb7)⟩)
      case round =>
       clear n0 n1 n2 n3 n4 g0 g1 g2 g3 g4 g5 g6 g7 g8 g9 e0 e1 e2 e3 e4 hB7 hL7 hBA hLA hBV hLV;obtain ⟨n, wn, hv37, Hn, Hgn, HBU, HK9, HA9, HW9⟩ := hrel;obtain ⟨p0', hBU, hLU⟩ := HK.out _ HBU.out;have m0 := span_Holds.cells HK9.out 0 _ rfl;have hlt9 : V.heap.size < wr.heap.size := (Array.getElem?_eq_some_iff.1 HK9.out).1;by_cases hn : n < 5
       ·(obtain rfl | rfl | rfl | rfl | rfl : n = 0 ∨ n = 1 ∨ n = 2 ∨ n = 3 ∨ n = 4 := by omega)
        ·obtain rfl : u37 = .int .i64 0 := hv37;have hg : (if (3 : Int) = b0 then (if (⟨#[60, 61]⟩ : ByteArray).size + s.size ≤ 9223372036854775807 then (if wn.length < 8796093022208 then span_Print.sg b0 s (span_Print.signs.drop (0 + 1)) (wn ++ [⟨#[60, 61]⟩ ++ s]) else none) else none) else span_Print.sg b0 s (span_Print.signs.drop (0 + 1)) wn).bind (span_Print.mid k (x.drop (j + 1)) (l0_0.drop (i + 1)) all) = some (r1, r2) := Hgn.out;by_cases ho : (3 : Int) = b0
         ·rw [if_pos ho] at hg;by_cases c1 : (⟨#[60, 61]⟩ : ByteArray).size + s.size ≤ 9223372036854775807
          ·rw [if_pos c1] at hg;by_cases c2 : wn.length < 8796093022208
           ·rw [if_pos c2] at hg;have hob : ((3 : Int) == b0) = true := beq_iff_eq.mpr ho;have LMc := Lib.hid c2;have Hgo' := Lib.hid hg;clear hg ho c2;go_wp2_with (first | ((with_reducible refine gate_builtin (b := .append) (xs := #[.tmp 45, .tmp 50]) rfl ?_); at_builtin; refine Kd.R_append Kd.string (w0 := w.alloc (.cells #[.slice (some ⟨rb, ro, none⟩) l0_0.length c0_0] 24)) (w.alloc (.cells #[.slice (some ⟨rb, ro, none⟩) l0_0.length c0_0] 24)).heap.size ?a1 (.tmp 45) (.tmp 50) 53 9 (.string ⟨#[]⟩) 16 ?a2 ?a3 ?a4 ?a5 ?a6 ?a7 u7 wn (⟨#[60, 61]⟩ ++ s) [.string (⟨#[60, 61]⟩ ++ s)] (fun k_ => some k_ ≠ u4.ownBlock ∧ k_ ≠ V.heap.size) (fun _ => False) ?aY ?aX ?aP ?aK ?aF ?aO ?aB ?aS ?aL ?_; (case a1 => rfl); (case a2 => rfl); (case a3 => exact Tryz.underlying53); (case a4 => exact info9); (case a5 => rfl); (case a6 => decide); (case a7 => decide); (case aK => exact fun _ hk => hk.elim); (case aY => rfl); (case aX => first | rfl | (rw [World.size_alloc]; rfl)); (case aP => exact rfl); (case aB => exact HBU.out.alloc HBU.out.size _); (case aF => exact (fun k_ hk => ⟨Kd.fresh' (Kd.R_lt (Kd.R_alloc HA9.out _)) k_ hk, by have := hk; rw [World.size_alloc] at this; omega⟩)); (case aO => exact Kd.R_alloc HW9.out _); (case aS => exact (HBU.out.alloc HBU.out.size _).size); (case aL => have := LMc.out; omega); intro v1 w1 ho hb hg hat; have HB1 := Lib.hid hb; have HW1 := Lib.hid ho; have HA1 := Lib.hid (Kd.R_mono (Kd.R_after (ok := (fun _ => True)) (Kd.R_mono (Kd.R_alloc HA9.out _) (fun _ hk => ⟨trivial, hk⟩)) hg hat) (fun _ hk => hk.2)); have e1 := Kd.R_away (g := V.heap.size) HW9.out (fun _ hk => hk.2); have e2 := hg.block V.heap.size (by rw [World.size_alloc]; exact Nat.lt_succ_of_lt hlt9) e1; have e3 := fun o => Below.heap_alloc wr o V.heap.size hlt9; have HK1 := Lib.hid ((e2.trans (e3 _)).trans HK9.out); clear e1 e2 e3; clear ho hb hg hat));go_roundg (5 - (0 + 1));(case measure => have := Hn.out.1; omega);(case rel => exact ⟨0 + 1, _, rfl, Lib.hid ⟨rfl, by omega⟩, Hgo', HB1, HK1, HA1, HW1⟩)
           ·rw [if_neg c2] at hg; cases hg
          ·rw [if_neg c1] at hg; cases hg
         ·rw [if_neg ho] at hg;have hob : ((3 : Int) == b0) = false := beq_eq_false_iff_ne.mpr ho;have Hgo' := Lib.hid hg;clear hg ho;go_wp2;go_roundg (5 - (0 + 1));(case measure => have := Hn.out.1; omega);(case rel => exact ⟨0 + 1, wn, rfl, Lib.hid ⟨rfl, by omega⟩, Hgo', Lib.hid (HBU.out.alloc HBU.out.size _), Lib.hid ((Below.heap_alloc _ _ _ hlt9).trans HK9.out), Lib.hid (Kd.R_alloc HA9.out _), Lib.hid (Kd.R_alloc HW9.out _)⟩)
        ·obtain rfl : u37 = .int .i64 1 := hv37;have hg : (if (5 : Int) = b0 then (if (⟨#[62, 61]⟩ : ByteArray).size + s.size ≤ 9223372036854775807 then (if wn.length < 8796093022208 then span_Print.sg b0 s (span_Print.signs.drop (1 + 1)) (wn ++ [⟨#[62, 61]⟩ ++ s]) else none) else none) else span_Print.sg b0 s (span_Print.signs.drop (1 + 1)) wn).bind (span_Print.mid k (x.drop (j + 1)) (l0_0.drop (i + 1)) all) = some (r1, r2) := Hgn.out;by_cases ho : (5 : Int) = b0
         ·rw [if_pos ho] at hg;by_cases c1 : (⟨#[62, 61]⟩ : ByteArray).size + s.size ≤ 9223372036854775807
          ·rw [if_pos c1] at hg;by_cases c2 : wn.length < 8796093022208
           ·rw [if_pos c2] at hg;have hob : ((5 : Int) == b0) = true := beq_iff_eq.mpr ho;have LMc := Lib.hid c2;have Hgo' := Lib.hid hg;clear hg ho c2;go_wp2_with (first | ((with_reducible refine gate_builtin (b := .append) (xs := #[.tmp 45, .tmp 50]) rfl ?_); at_builtin; refine Kd.R_append Kd.string (w0 := w.alloc (.cells #[.slice (some ⟨rb, ro, none⟩) l0_0.length c0_0] 24)) (w.alloc (.cells #[.slice (some ⟨rb, ro, none⟩) l0_0.length c0_0] 24)).heap.size ?a1 (.tmp 45) (.tmp 50) 53 9 (.string ⟨#[]⟩) 16 ?a2 ?a3 ?a4 ?a5 ?a6 ?a7 u7 wn (⟨#[62, 61]⟩ ++ s) [.string (⟨#[62, 61]⟩ ++ s)] (fun k_ => some k_ ≠ u4.ownBlock ∧ k_ ≠ V.heap.size) (fun _ => False) ?aY ?aX ?aP ?aK ?aF ?aO ?aB ?aS ?aL ?_; (case a1 => rfl); (case a2 => rfl); (case a3 => exact Tryz.underlying53); (case a4 => exact info9); (case a5 => rfl); (case a6 => decide); (case a7 => decide); (case aK => exact fun _ hk => hk.elim); (case aY => rfl); (case aX => first | rfl | (rw [World.size_alloc]; rfl)); (case aP => exact rfl); (case aB => exact HBU.out.alloc HBU.out.size _); (case aF => exact (fun k_ hk => ⟨Kd.fresh' (Kd.R_lt (Kd.R_alloc HA9.out _)) k_ hk, by have := hk; rw [World.size_alloc] at this; omega⟩)); (case aO => exact Kd.R_alloc HW9.out _); (case aS => exact (HBU.out.alloc HBU.out.size _).size); (case aL => have := LMc.out; omega); intro v1 w1 ho hb hg hat; have HB1 := Lib.hid hb; have HW1 := Lib.hid ho; have HA1 := Lib.hid (Kd.R_mono (Kd.R_after (ok := (fun _ => True)) (Kd.R_mono (Kd.R_alloc HA9.out _) (fun _ hk => ⟨trivial, hk⟩)) hg hat) (fun _ hk => hk.2)); have e1 := Kd.R_away (g := V.heap.size) HW9.out (fun _ hk => hk.2); have e2 := hg.block V.heap.size (by rw [World.size_alloc]; exact Nat.lt_succ_of_lt hlt9) e1; have e3 := fun o => Below.heap_alloc wr o V.heap.size hlt9; have HK1 := Lib.hid ((e2.trans (e3 _)).trans HK9.out); clear e1 e2 e3; clear ho hb hg hat));go_roundg (5 - (1 + 1));(case measure => have := Hn.out.1; omega);(case rel => exact ⟨1 + 1, _, rfl, Lib.hid ⟨rfl, by omega⟩, Hgo', HB1, HK1, HA1, HW1⟩)
           ·rw [if_neg c2] at hg; cases hg
          ·rw [if_neg c1] at hg; cases hg
         ·rw [if_neg ho] at hg;have hob : ((5 : Int) == b0) = false := beq_eq_false_iff_ne.mpr ho;have Hgo' := Lib.hid hg;clear hg ho;go_wp2;go_roundg (5 - (1 + 1));(case measure => have := Hn.out.1; omega);(case rel => exact ⟨1 + 1, wn, rfl, Lib.hid ⟨rfl, by omega⟩, Hgo', Lib.hid (HBU.out.alloc HBU.out.size _), Lib.hid ((Below.heap_alloc _ _ _ hlt9).trans HK9.out), Lib.hid (Kd.R_alloc HA9.out _), Lib.hid (Kd.R_alloc HW9.out _)⟩)
        ·obtain rfl : u37 = .int .i64 2 := hv37;have hg : (if (2 : Int) = b0 then (if (⟨#[60]⟩ : ByteArray).size + s.size ≤ 9223372036854775807 then (if wn.length < 8796093022208 then span_Print.sg b0 s (span_Print.signs.drop (2 + 1)) (wn ++ [⟨#[60]⟩ ++ s]) else none) else none) else span_Print.sg b0 s (span_Print.signs.drop (2 + 1)) wn).bind (span_Print.mid k (x.drop (j + 1)) (l0_0.drop (i + 1)) all) = some (r1, r2) := Hgn.out;by_cases ho : (2 : Int) = b0
         ·rw [if_pos ho] at hg;by_cases c1 : (⟨#[60]⟩ : ByteArray).size + s.size ≤ 9223372036854775807
          ·rw [if_pos c1] at hg;by_cases c2 : wn.length < 8796093022208
           ·rw [if_pos c2] at hg;have hob : ((2 : Int) == b0) = true := beq_iff_eq.mpr ho;have LMc := Lib.hid c2;have Hgo' := Lib.hid hg;clear hg ho c2;go_wp2_with (first | ((with_reducible refine gate_builtin (b := .append) (xs := #[.tmp 45, .tmp 50]) rfl ?_); at_builtin; refine Kd.R_append Kd.string (w0 := w.alloc (.cells #[.slice (some ⟨rb, ro, none⟩) l0_0.length c0_0] 24)) (w.alloc (.cells #[.slice (some ⟨rb, ro, none⟩) l0_0.length c0_0] 24)).heap.size ?a1 (.tmp 45) (.tmp 50) 53 9 (.string ⟨#[]⟩) 16 ?a2 ?a3 ?a4 ?a5 ?a6 ?a7 u7 wn (⟨#[60]⟩ ++ s) [.string (⟨#[60]⟩ ++ s)] (fun k_ => some k_ ≠ u4.ownBlock ∧ k_ ≠ V.heap.size) (fun _ => False) ?aY ?aX ?aP ?aK ?aF ?aO ?aB ?aS ?aL ?_; (case a1 => rfl); (case a2 => rfl); (case a3 => exact Tryz.underlying53); (case a4 => exact info9); (case a5 => rfl); (case a6 => decide); (case a7 => decide); (case aK => exact fun _ hk => hk.elim); (case aY => rfl); (case aX => first | rfl | (rw [World.size_alloc]; rfl)); (case aP => exact rfl); (case aB => exact HBU.out.alloc HBU.out.size _); (case aF => exact (fun k_ hk => ⟨Kd.fresh' (Kd.R_lt (Kd.R_alloc HA9.out _)) k_ hk, by have := hk; rw [World.size_alloc] at this; omega⟩)); (case aO => exact Kd.R_alloc HW9.out _); (case aS => exact (HBU.out.alloc HBU.out.size _).size); (case aL => have := LMc.out; omega); intro v1 w1 ho hb hg hat; have HB1 := Lib.hid hb; have HW1 := Lib.hid ho; have HA1 := Lib.hid (Kd.R_mono (Kd.R_after (ok := (fun _ => True)) (Kd.R_mono (Kd.R_alloc HA9.out _) (fun _ hk => ⟨trivial, hk⟩)) hg hat) (fun _ hk => hk.2)); have e1 := Kd.R_away (g := V.heap.size) HW9.out (fun _ hk => hk.2); have e2 := hg.block V.heap.size (by rw [World.size_alloc]; exact Nat.lt_succ_of_lt hlt9) e1; have e3 := fun o => Below.heap_alloc wr o V.heap.size hlt9; have HK1 := Lib.hid ((e2.trans (e3 _)).trans HK9.out); clear e1 e2 e3; clear ho hb hg hat));go_roundg (5 - (2 + 1));(case measure => have := Hn.out.1; omega);(case rel => exact ⟨2 + 1, _, rfl, Lib.hid ⟨rfl, by omega⟩, Hgo', HB1, HK1, HA1, HW1⟩)
           ·rw [if_neg c2] at hg; cases hg
          ·rw [if_neg c1] at hg; cases hg
         ·rw [if_neg ho] at hg;have hob : ((2 : Int) == b0) = false := beq_eq_false_iff_ne.mpr ho;have Hgo' := Lib.hid hg;clear hg ho;go_wp2;go_roundg (5 - (2 + 1));(case measure => have := Hn.out.1; omega);(case rel => exact ⟨2 + 1, wn, rfl, Lib.hid ⟨rfl, by omega⟩, Hgo', Lib.hid (HBU.out.alloc HBU.out.size _), Lib.hid ((Below.heap_alloc _ _ _ hlt9).trans HK9.out), Lib.hid (Kd.R_alloc HA9.out _), Lib.hid (Kd.R_alloc HW9.out _)⟩)
        ·obtain rfl : u37 = .int .i64 3 := hv37;have hg : (if (4 : Int) = b0 then (if (⟨#[62]⟩ : ByteArray).size + s.size ≤ 9223372036854775807 then (if wn.length < 8796093022208 then span_Print.sg b0 s (span_Print.signs.drop (3 + 1)) (wn ++ [⟨#[62]⟩ ++ s]) else none) else none) else span_Print.sg b0 s (span_Print.signs.drop (3 + 1)) wn).bind (span_Print.mid k (x.drop (j + 1)) (l0_0.drop (i + 1)) all) = some (r1, r2) := Hgn.out;by_cases ho : (4 : Int) = b0
         ·rw [if_pos ho] at hg;by_cases c1 : (⟨#[62]⟩ : ByteArray).size + s.size ≤ 9223372036854775807
          ·rw [if_pos c1] at hg;by_cases c2 : wn.length < 8796093022208
           ·rw [if_pos c2] at hg;have hob : ((4 : Int) == b0) = true := beq_iff_eq.mpr ho;have LMc := Lib.hid c2;have Hgo' := Lib.hid hg;clear hg ho c2;go_wp2_with (first | ((with_reducible refine gate_builtin (b := .append) (xs := #[.tmp 45, .tmp 50]) rfl ?_); at_builtin; refine Kd.R_append Kd.string (w0 := w.alloc (.cells #[.slice (some ⟨rb, ro, none⟩) l0_0.length c0_0] 24)) (w.alloc (.cells #[.slice (some ⟨rb, ro, none⟩) l0_0.length c0_0] 24)).heap.size ?a1 (.tmp 45) (.tmp 50) 53 9 (.string ⟨#[]⟩) 16 ?a2 ?a3 ?a4 ?a5 ?a6 ?a7 u7 wn (⟨#[62]⟩ ++ s) [.string (⟨#[62]⟩ ++ s)] (fun k_ => some k_ ≠ u4.ownBlock ∧ k_ ≠ V.heap.size) (fun _ => False) ?aY ?aX ?aP ?aK ?aF ?aO ?aB ?aS ?aL ?_; (case a1 => rfl); (case a2 => rfl); (case a3 => exact Tryz.underlying53); (case a4 => exact info9); (case a5 => rfl); (case a6 => decide); (case a7 => decide); (case aK => exact fun _ hk => hk.elim); (case aY => rfl); (case aX => first | rfl | (rw [World.size_alloc]; rfl)); (case aP => exact rfl); (case aB => exact HBU.out.alloc HBU.out.size _); (case aF => exact (fun k_ hk => ⟨Kd.fresh' (Kd.R_lt (Kd.R_alloc HA9.out _)) k_ hk, by have := hk; rw [World.size_alloc] at this; omega⟩)); (case aO => exact Kd.R_alloc HW9.out _); (case aS => exact (HBU.out.alloc HBU.out.size _).size); (case aL => have := LMc.out; omega); intro v1 w1 ho hb hg hat; have HB1 := Lib.hid hb; have HW1 := Lib.hid ho; have HA1 := Lib.hid (Kd.R_mono (Kd.R_after (ok := (fun _ => True)) (Kd.R_mono (Kd.R_alloc HA9.out _) (fun _ hk => ⟨trivial, hk⟩)) hg hat) (fun _ hk => hk.2)); have e1 := Kd.R_away (g := V.heap.size) HW9.out (fun _ hk => hk.2); have e2 := hg.block V.heap.size (by rw [World.size_alloc]; exact Nat.lt_succ_of_lt hlt9) e1; have e3 := fun o => Below.heap_alloc wr o V.heap.size hlt9; have HK1 := Lib.hid ((e2.trans (e3 _)).trans HK9.out); clear e1 e2 e3; clear ho hb hg hat));go_roundg (5 - (3 + 1));(case measure => have := Hn.out.1; omega);(case rel => exact ⟨3 + 1, _, rfl, Lib.hid ⟨rfl, by omega⟩, Hgo', HB1, HK1, HA1, HW1⟩)
           ·rw [if_neg c2] at hg; cases hg
          ·rw [if_neg c1] at hg; cases hg
         ·rw [if_neg ho] at hg;have hob : ((4 : Int) == b0) = false := beq_eq_false_iff_ne.mpr ho;have Hgo' := Lib.hid hg;clear hg ho;go_wp2;go_roundg (5 - (3 + 1));(case measure => have := Hn.out.1; omega);(case rel => exact ⟨3 + 1, wn, rfl, Lib.hid ⟨rfl, by omega⟩, Hgo', Lib.hid (HBU.out.alloc HBU.out.size _), Lib.hid ((Below.heap_alloc _ _ _ hlt9).trans HK9.out), Lib.hid (Kd.R_alloc HA9.out _), Lib.hid (Kd.R_alloc HW9.out _)⟩)
        ·obtain rfl : u37 = .int .i64 4 := hv37;have hg : (if (1 : Int) = b0 then (if (⟨#[61]⟩ : ByteArray).size + s.size ≤ 9223372036854775807 then (if wn.length < 8796093022208 then span_Print.sg b0 s (span_Print.signs.drop (4 + 1)) (wn ++ [⟨#[61]⟩ ++ s]) else none) else none) else span_Print.sg b0 s (span_Print.signs.drop (4 + 1)) wn).bind (span_Print.mid k (x.drop (j + 1)) (l0_0.drop (i + 1)) all) = some (r1, r2) := Hgn.out;by_cases ho : (1 : Int) = b0
         ·rw [if_pos ho] at hg;by_cases c1 : (⟨#[61]⟩ : ByteArray).size + s.size ≤ 9223372036854775807
          ·rw [if_pos c1] at hg;by_cases c2 : wn.length < 8796093022208
           ·rw [if_pos c2] at hg;have hob : ((1 : Int) == b0) = true := beq_iff_eq.mpr ho;have LMc := Lib.hid c2;have Hgo' := Lib.hid hg;clear hg ho c2;go_wp2_with (first | ((with_reducible refine gate_builtin (b := .append) (xs := #[.tmp 45, .tmp 50]) rfl ?_); at_builtin; refine Kd.R_append Kd.string (w0 := w.alloc (.cells #[.slice (some ⟨rb, ro, none⟩) l0_0.length c0_0] 24)) (w.alloc (.cells #[.slice (some ⟨rb, ro, none⟩) l0_0.length c0_0] 24)).heap.size ?a1 (.tmp 45) (.tmp 50) 53 9 (.string ⟨#[]⟩) 16 ?a2 ?a3 ?a4 ?a5 ?a6 ?a7 u7 wn (⟨#[61]⟩ ++ s) [.string (⟨#[61]⟩ ++ s)] (fun k_ => some k_ ≠ u4.ownBlock ∧ k_ ≠ V.heap.size) (fun _ => False) ?aY ?aX ?aP ?aK ?aF ?aO ?aB ?aS ?aL ?_; (case a1 => rfl); (case a2 => rfl); (case a3 => exact Tryz.underlying53); (case a4 => exact info9); (case a5 => rfl); (case a6 => decide); (case a7 => decide); (case aK => exact fun _ hk => hk.elim); (case aY => rfl); (case aX => first | rfl | (rw [World.size_alloc]; rfl)); (case aP => exact rfl); (case aB => exact HBU.out.alloc HBU.out.size _); (case aF => exact (fun k_ hk => ⟨Kd.fresh' (Kd.R_lt (Kd.R_alloc HA9.out _)) k_ hk, by have := hk; rw [World.size_alloc] at this; omega⟩)); (case aO => exact Kd.R_alloc HW9.out _); (case aS => exact (HBU.out.alloc HBU.out.size _).size); (case aL => have := LMc.out; omega); intro v1 w1 ho hb hg hat; have HB1 := Lib.hid hb; have HW1 := Lib.hid ho; have HA1 := Lib.hid (Kd.R_mono (Kd.R_after (ok := (fun _ => True)) (Kd.R_mono (Kd.R_alloc HA9.out _) (fun _ hk => ⟨trivial, hk⟩)) hg hat) (fun _ hk => hk.2)); have e1 := Kd.R_away (g := V.heap.size) HW9.out (fun _ hk => hk.2); have e2 := hg.block V.heap.size (by rw [World.size_alloc]; exact Nat.lt_succ_of_lt hlt9) e1; have e3 := fun o => Below.heap_alloc wr o V.heap.size hlt9; have HK1 := Lib.hid ((e2.trans (e3 _)).trans HK9.out); clear e1 e2 e3; clear ho hb hg hat));go_roundg (5 - (4 + 1));(case measure => have := Hn.out.1; omega);(case rel => exact ⟨4 + 1, _, rfl, Lib.hid ⟨rfl, by omega⟩, Hgo', HB1, HK1, HA1, HW1⟩)
           ·rw [if_neg c2] at hg; cases hg
          ·rw [if_neg c1] at hg; cases hg
         ·rw [if_neg ho] at hg;have hob : ((1 : Int) == b0) = false := beq_eq_false_iff_ne.mpr ho;have Hgo' := Lib.hid hg;clear hg ho;go_wp2;go_roundg (5 - (4 + 1));(case measure => have := Hn.out.1; omega);(case rel => exact ⟨4 + 1, wn, rfl, Lib.hid ⟨rfl, by omega⟩, Hgo', Lib.hid (HBU.out.alloc HBU.out.size _), Lib.hid ((Below.heap_alloc _ _ _ hlt9).trans HK9.out), Lib.hid (Kd.R_alloc HA9.out _), Lib.hid (Kd.R_alloc HW9.out _)⟩)
       ·(obtain rfl : n = 5 := by have := Hn.out.2; omega);obtain rfl : u37 = .int .i64 5 := hv37;have Hgo' : Hid (span_Print.mid k (x.drop (j + 1)) (l0_0.drop (i + 1)) all wn = some (r1, r2)) := Lib.hid Hgn.out;go_wp2;go_roundg (x.length - (j + 1));(case measure => have := Hj.out.1; omega);(case rel => exact ⟨j + 1, wn, by go_num, Lib.hid ⟨rfl, by omega⟩, Hgo', HBU, HA9, Lib.hid (Kd.R_mono HW9.out (fun _ hk => hk.1))⟩)
     ·(have hje : j = x.length := by omega);have hg := Hgj.out;rw [List.drop_of_length_le (by omega)] at hg;(have hg : span_Print.add k (l0_0.drop (i + 1)) all ws = some (r1, r2) := by simpa [span_Print.mid, span_Print.row] using hg);unfold span_Print.add at hg;obtain ⟨all', hg, hfin⟩ := Option.bind_eq_some_iff.1 hg;obtain ⟨t, ht, hg⟩ := Option.bind_eq_some_iff.1 hg;by_cases c2 : all.length < 8796093022208
      ·rw [if_pos c2] at hg;have LMc := Lib.hid c2;have Hgo : Hid ((span_Print.go k (l0_0.drop (i + 1)) (all ++ [t])).bind span_Print.fin = some (r1, r2)) := Lib.hid (by rw [hg]; exact hfin);clear hg hfin c2 Hgj;obtain ⟨Aw0, cw0, ew0⟩ := Kd.R_slice HW.out;subst ew0;by_cases h0 : ws.length = 0
       ·rw [if_pos h0] at ht;obtain rfl : ws = [] := List.length_eq_zero_iff.1 h0;have HT : Hid (strings_Join.f ([] ++ [⟨#[42]⟩]) ⟨#[32]⟩ = some t) := Lib.hid ht;have CJ : Hid (∀ W A c, Kd.C Kd.string W A 1 [(⟨#[42]⟩ : ByteArray)] → 1 ≤ c → Calls Tryz.prog 31 #[.slice A 1 c, .string ⟨#[32]⟩] W fun e w' => e = .returned (.string t) ∧ Below W.heap.size W w') := Lib.hid (fun W A c hC hc => strings_Join.calls A c [⟨#[42]⟩] ⟨#[32]⟩ t W hC hc HT.out);have HWz : Hid (Kd.R Kd.string 9 V (w.alloc (.cells #[.slice (some ⟨rb, ro, none⟩) l0_0.length c0_0] 24)).heap.size (fun k_ => some k_ ≠ u4.ownBlock) (.slice Aw0 0 cw0) []) := HW;have HAz : Hid (Kd.R Kd.string 9 V (w.alloc (.cells #[.slice (some ⟨rb, ro, none⟩) l0_0.length c0_0] 24)).heap.size (fun k_ => some k_ ≠ (Value.slice Aw0 0 cw0).ownBlock) u4 all) := HA;clear ht h0 HW HA;go_wp2_with (first | ((with_reducible refine gate_builtin (b := .append) (xs := #[.tmp 57, .tmp 58]) rfl ?_); at_builtin; refine Kd.R_append Kd.string (w0 := w.alloc (.cells #[.slice (some ⟨rb, ro, none⟩) l0_0.length c0_0] 24)) (w.alloc (.cells #[.slice (some ⟨rb, ro, none⟩) l0_0.length c0_0] 24)).heap.size ?a1 (.tmp 57) (.tmp 58) 53 9 (.string ⟨#[]⟩) 16 ?a2 ?a3 ?a4 ?a5 ?a6 ?a7 (.slice Aw0 0 cw0) [] (⟨#[42]⟩ : ByteArray) [.string (⟨#[42]⟩ : ByteArray)] (fun k_ => some k_ ≠ u4.ownBlock) (fun _ => False) ?aY ?aX ?aP ?aK ?aF ?aO ?aB ?aS ?aL ?_; (case a1 => rfl); (case a2 => rfl); (case a3 => exact Tryz.underlying53); (case a4 => exact info9); (case a5 => rfl); (case a6 => decide); (case a7 => decide); (case aK => exact fun _ hk => hk.elim); (case aY => rfl); (case aX => first | rfl | (rw [World.size_alloc]; rfl)); (case aP => exact rfl); (case aB => exact HBV.out); (case aF => exact (fun k_ hk => Kd.fresh' (Kd.R_lt HAz.out) k_ hk)); (case aO => exact HWz.out); (case aS => exact HBV.out.size); (case aL => (simp only [List.length_nil]; omega)); intro v1 w1 ho hb hg hat; have HB1 := Lib.hid hb; have HW1 := Lib.hid ho; have HA1 := Lib.hid (Kd.R_mono (Kd.R_after (ok := (fun _ => True)) (Kd.R_mono HAz.out (fun _ hk => ⟨trivial, hk⟩)) hg hat) (fun _ hk => hk.2)); obtain ⟨Aw, cw, ew⟩ := Kd.R_slice HW1.out; subst ew; obtain ⟨_, hcw, hCw⟩ := Kd.R_reads' HW1.out; have HCw : Hid (Kd.C Kd.string w1 Aw 1 [(⟨#[42]⟩ : ByteArray)]) := Lib.hid hCw; have HCc : 1 ≤ cw := hcw; clear hCw hcw; obtain ⟨_, hB1, hL1⟩ := HK.out _ HB1.out; clear ho hb hg hat) | (go_at_call 31; refine (CJ.out _ Aw cw HCw.out HCc).mono ?_; rintro e w8 ⟨rfl, hb8⟩; have HB8 := Lib.hid (HB1.out.trans (hb8.mono HB1.out.size)); have HA8 := Lib.hid (Kd.R_mono (Kd.R_below HA1.out hb8) (fun _ _ => trivial))) | ((with_reducible refine gate_builtin (b := .append) (xs := #[.tmp 60, .tmp 63]) rfl ?_); at_builtin; refine Kd.R_append Kd.string (w0 := w.alloc (.cells #[.slice (some ⟨rb, ro, none⟩) l0_0.length c0_0] 24)) (w.alloc (.cells #[.slice (some ⟨rb, ro, none⟩) l0_0.length c0_0] 24)).heap.size ?a1 (.tmp 60) (.tmp 63) 53 9 (.string ⟨#[]⟩) 16 ?a2 ?a3 ?a4 ?a5 ?a6 ?a7 u4 all t [.string t] (fun _ => True) (fun _ => False) ?aY ?aX ?aP ?aK ?aF ?aO ?aB ?aS ?aL ?_; (case a1 => rfl); (case a2 => rfl); (case a3 => exact Tryz.underlying53); (case a4 => exact info9); (case a5 => rfl); (case a6 => decide); (case a7 => decide); (case aK => exact fun _ hk => hk.elim); (case aY => rfl); (case aX => first | rfl | (rw [World.size_alloc]; rfl)); (case aP => exact rfl); (case aB => exact HB8.out); (case aF => exact (fun _ _ => trivial)); (case aO => exact HA8.out); (case aS => exact HB8.out.size); (case aL => have := LMc.out; omega); intro v1 w1 ho hb hg hat; have HB1' := Lib.hid hb; have HW1' := Lib.hid ho; clear ho hb hg hat));go_roundg (l0_0.length - (i + 1));(case rel => exact ⟨i + 1, all ++ [t], by go_num, Lib.hid ⟨rfl, by omega⟩, Hgo, HB1', HW1'⟩);(case measure => have := Hi.out.1; omega)
       ·rw [if_neg h0] at ht;have HT := Lib.hid ht;clear ht;have z0 : ((ws.length : Int) == 0) = false := beq_eq_false_iff_ne.mpr (by omega);obtain ⟨_, hcw, hCw⟩ := Kd.R_reads' HW.out;have HCw := Lib.hid hCw;clear hCw;go_wp2_with (first | (go_at_call 31; refine (strings_Join.calls Aw0 cw0 ws ⟨#[32]⟩ t _ HCw.out hcw HT.out).mono ?_; rintro e w8 ⟨rfl, hb8⟩; have HB8 := Lib.hid (HBV.out.trans (hb8.mono HBV.out.size)); have HA8 := Lib.hid (Kd.R_mono (Kd.R_below HA.out hb8) (fun _ _ => trivial))) | ((with_reducible refine gate_builtin (b := .append) (xs := #[.tmp 60, .tmp 63]) rfl ?_); at_builtin; refine Kd.R_append Kd.string (w0 := w.alloc (.cells #[.slice (some ⟨rb, ro, none⟩) l0_0.length c0_0] 24)) (w.alloc (.cells #[.slice (some ⟨rb, ro, none⟩) l0_0.length c0_0] 24)).heap.size ?a1 (.tmp 60) (.tmp 63) 53 9 (.string ⟨#[]⟩) 16 ?a2 ?a3 ?a4 ?a5 ?a6 ?a7 u4 all t [.string t] (fun _ => True) (fun _ => False) ?aY ?aX ?aP ?aK ?aF ?aO ?aB ?aS ?aL ?_; (case a1 => rfl); (case a2 => rfl); (case a3 => exact Tryz.underlying53); (case a4 => exact info9); (case a5 => rfl); (case a6 => decide); (case a7 => decide); (case aK => exact fun _ hk => hk.elim); (case aY => rfl); (case aX => first | rfl | (rw [World.size_alloc]; rfl)); (case aP => exact rfl); (case aB => exact HB8.out); (case aF => exact (fun _ _ => trivial)); (case aO => exact HA8.out); (case aS => exact HB8.out.size); (case aL => have := LMc.out; omega); intro v1 w1 ho hb hg hat; have HB1' := Lib.hid hb; have HW1' := Lib.hid ho; clear ho hb hg hat));go_roundg (l0_0.length - (i + 1));(case rel => exact ⟨i + 1, all ++ [t], by go_num, Lib.hid ⟨rfl, by omega⟩, Hgo, HB1', HW1'⟩);(case measure => have := Hi.out.1; omega)
      ·rw [if_neg c2] at hg; cases hg
   ·(have hie : i = l0_0.length := by omega);have hg := Hg.out;rw [List.drop_of_length_le (by omega)] at hg;obtain ⟨t, ht, hgt⟩ := Option.bind_eq_some_iff.1 (show span_Print.fin all = some (r1, r2) by simpa [span_Print.go] using hg);obtain ⟨rfl, rfl⟩ := Prod.mk.inj (Option.some.inj hgt);have HT := Lib.hid ht;obtain ⟨Aa, ca, ea⟩ := Kd.R_slice HA.out;subst ea;obtain ⟨_, hca, hCa⟩ := Kd.R_reads' HA.out;have HCa := Lib.hid hCa;clear hCa ht hg hgt;go_wp2_with (first | (go_at_call 31; refine (strings_Join.calls Aa ca all ⟨#[32, 124, 124, 32]⟩ t _ HCa.out hca HT.out).mono ?_; rintro e w8 ⟨rfl, hb8⟩));go_ret2;exact ⟨rfl, hBW.trans (hb8.mono hBW.size)⟩
end
def stringslite_HasPrefix.f (a0 : ByteArray) (a1 : ByteArray) : Option (Bool) := if (a0.size : Int) ≥ (a1.size : Int) then (if 0 ≤ (a1.size : Int) then (if (a1.size : Int) ≤ (a0.size : Int) then (some ((a0.extract 0 ((a1.size : Int) : Int).toNat).toList == a1.toList)) else (none)) else (none)) else (some false)
theorem stringslite_HasPrefix.calls (a0 : ByteArray) (a1 : ByteArray) (r : Bool) (w : World) (h : stringslite_HasPrefix.f a0 a1 = some r) :
 Calls Tryz.prog 70 #[.string a0, .string a1] w fun e w' => e = .returned (.bool r) ∧ Drawn0 w w' := by
 have H : (if (a0.size : Int) ≥ (a1.size : Int) then (if 0 ≤ (a1.size : Int) then (if (a1.size : Int) ≤ (a0.size : Int) then (some ((a0.extract 0 ((a1.size : Int) : Int).toNat).toList == a1.toList)) else (none)) else (none)) else (some false)) = some r := h;clear h;by_cases c3 : (a0.size : Int) ≥ (a1.size : Int)
 ·rw [if_pos c3] at H;have c3b0 := decide_eq_true c3;have c3b1 : decide (a1.size ≤ a0.size) = true := decide_eq_true (Int.ofNat_le.mp c3);clear c3;by_cases c4 : 0 ≤ (a1.size : Int)
  ·rw [if_pos c4] at H;have c4b0 := eq_true c4;have c4b1 := decide_eq_true c4;clear c4;by_cases c5 : (a1.size : Int) ≤ (a0.size : Int)
   ·rw [if_pos c5] at H;have c5b0 := eq_true c5;have c5b1 := decide_eq_true c5;clear c5;obtain rfl := Option.some.inj H;(go_enter Tryz.func70, Tryz.ntmps70);go_wp2;go_ret;exact ⟨sE, sD⟩
   ·rw [if_neg c5] at H;exact absurd H (by simp)
  ·rw [if_neg c4] at H;exact absurd H (by simp)
 ·rw [if_neg c3] at H;have c3b0 := decide_eq_false c3;have c3b1 : decide (a1.size ≤ a0.size) = false := decide_eq_false (fun h => c3 (Int.ofNat_le.mpr h));clear c3;obtain rfl := Option.some.inj H;(go_enter Tryz.func70, Tryz.ntmps70);go_wp2;go_ret;exact ⟨sE, sD⟩
def strings_HasPrefix.f (a0 : ByteArray) (a1 : ByteArray) : Option (Bool) := (stringslite_HasPrefix.f a0 a1).bind fun t188 => (some t188)
theorem strings_HasPrefix.calls (a0 : ByteArray) (a1 : ByteArray) (r : Bool) (w : World) (h : strings_HasPrefix.f a0 a1 = some r) :
 Calls Tryz.prog 42 #[.string a0, .string a1] w fun e w' => e = .returned (.bool r) ∧ Drawn0 w w' := by
 have H : ((stringslite_HasPrefix.f a0 a1).bind fun t188 => (some t188)) = some r := h;clear h;replace H := Option.bind_eq_some_iff.mp H;obtain ⟨t188, A30, H⟩ := H;have A3 := Aside0.mk A30;clear A30;obtain rfl := Option.some.inj H;(go_enter Tryz.func42, Tryz.ntmps42);go_wp2_with (first | ((with_reducible refine gate_callee (f := 70) rfl ?_); refine goesL_ (some 7) rfl rfl Tryz.func70 (by kernel_rfl) rfl #[.string a0, .string a1] rfl sM ?_; (with_reducible refine (stringslite_HasPrefix.calls a0 a1 t188 _ A3.out).mono ?_); rintro e w' ⟨rfl, ⟨nd, rfl⟩⟩; refine ⟨_, rfl, ?_⟩));go_ret;exact ⟨sE, sD⟩
def stringslite_CutPrefix.f (a0 : ByteArray) (a1 : ByteArray) : Option (ByteArray × Bool) := (stringslite_HasPrefix.f a0 a1).bind fun t189 => (if t189 = true then (if 0 ≤ (a1.size : Int) then (if (a1.size : Int) ≤ (a0.size : Int) then (some (a0.extract ((a1.size : Int) : Int).toNat a0.size, true)) else (none)) else (none)) else (some (a0, false)))
theorem stringslite_CutPrefix.calls (a0 : ByteArray) (a1 : ByteArray) (r1 : ByteArray) (r2 : Bool) (w : World) (h : stringslite_CutPrefix.f a0 a1 = some (r1, r2)) :
 Calls Tryz.prog 71 #[.string a0, .string a1] w fun e w' => e = .returned (.tuple #[.string r1, .bool r2]) ∧ Drawn0 w w' := by
 have H : ((stringslite_HasPrefix.f a0 a1).bind fun t189 => (if t189 = true then (if 0 ≤ (a1.size : Int) then (if (a1.size : Int) ≤ (a0.size : Int) then (some (a0.extract ((a1.size : Int) : Int).toNat a0.size, true)) else (none)) else (none)) else (some (a0, false)))) = some (r1, r2) := h;clear h;replace H := Option.bind_eq_some_iff.mp H;obtain ⟨t189, A30, H⟩ := H;have A3 := Aside0.mk A30;clear A30;by_cases c4 : t189 = true
 ·subst c4;(have H1 : (if 0 ≤ (a1.size : Int) then (if (a1.size : Int) ≤ (a0.size : Int) then (some (a0.extract ((a1.size : Int) : Int).toNat a0.size, true)) else (none)) else (none)) = some (r1, r2) := by rw [if_pos rfl] at H; exact H);clear H;have H := H1;clear H1;by_cases c5 : 0 ≤ (a1.size : Int)
  ·rw [if_pos c5] at H;have c5b0 := eq_true c5;have c5b1 := decide_eq_true c5;clear c5;by_cases c6 : (a1.size : Int) ≤ (a0.size : Int)
   ·rw [if_pos c6] at H;have c6b0 := eq_true c6;have c6b1 := decide_eq_true c6;clear c6;simp only [Option.some.injEq, Prod.mk.injEq] at H;obtain ⟨rfl, rfl⟩ := H;(go_enter Tryz.func71, Tryz.ntmps71);go_wp2_with (first | ((with_reducible refine gate_callee (f := 70) rfl ?_); refine goesL_ (some 8) rfl rfl Tryz.func70 (by kernel_rfl) rfl #[.string a0, .string a1] rfl sM ?_; (with_reducible refine (stringslite_HasPrefix.calls a0 a1 true _ A3.out).mono ?_); rintro e w' ⟨rfl, ⟨nd, rfl⟩⟩; refine ⟨_, rfl, ?_⟩));go_ret2;exact ⟨sE, sD⟩
   ·rw [if_neg c6] at H;exact absurd H (by simp)
  ·rw [if_neg c5] at H;exact absurd H (by simp)
 ·replace c4 := Bool.eq_false_iff.mpr c4;subst c4;(have H1 : (some (a0, false)) = some (r1, r2) := by rw [if_neg (show ¬ (false = true) by decide)] at H; exact H);clear H;have H := H1;clear H1;simp only [Option.some.injEq, Prod.mk.injEq] at H;obtain ⟨rfl, rfl⟩ := H;(go_enter Tryz.func71, Tryz.ntmps71);go_wp2_with (first | ((with_reducible refine gate_callee (f := 70) rfl ?_); refine goesL_ (some 8) rfl rfl Tryz.func70 (by kernel_rfl) rfl #[.string a0, .string a1] rfl sM ?_; (with_reducible refine (stringslite_HasPrefix.calls a0 a1 false _ A3.out).mono ?_); rintro e w' ⟨rfl, ⟨nd, rfl⟩⟩; refine ⟨_, rfl, ?_⟩));go_ret2;exact ⟨sE, sD⟩
def strings_CutPrefix.f (a0 : ByteArray) (a1 : ByteArray) : Option (ByteArray × Bool) := (stringslite_CutPrefix.f a0 a1).bind fun bt190 => (some (bt190.1, bt190.2))
theorem strings_CutPrefix.calls (a0 : ByteArray) (a1 : ByteArray) (r1 : ByteArray) (r2 : Bool) (w : World) (h : strings_CutPrefix.f a0 a1 = some (r1, r2)) :
 Calls Tryz.prog 43 #[.string a0, .string a1] w fun e w' => e = .returned (.tuple #[.string r1, .bool r2]) ∧ Drawn0 w w' := by
 have H : ((stringslite_CutPrefix.f a0 a1).bind fun bt190 => (some (bt190.1, bt190.2))) = some (r1, r2) := h;clear h;replace H := Option.bind_eq_some_iff.mp H;obtain ⟨⟨t190, t191⟩, A30, H⟩ := H;have A3 := Aside0.mk A30;clear A30;simp only [Option.some.injEq, Prod.mk.injEq] at H;obtain ⟨rfl, rfl⟩ := H;(go_enter Tryz.func43, Tryz.ntmps43);go_wp2_with (first | ((with_reducible refine gate_callee (f := 71) rfl ?_); refine goesL_ (some 8) rfl rfl Tryz.func71 (by kernel_rfl) rfl #[.string a0, .string a1] rfl sM ?_; (with_reducible refine (stringslite_CutPrefix.calls a0 a1 t190 t191 _ A3.out).mono ?_); rintro e w' ⟨rfl, ⟨nd, rfl⟩⟩; refine ⟨_, rfl, ?_⟩));go_ret2;exact ⟨sE, sD⟩
def strings_Cut.f (a0 : ByteArray) (a1 : ByteArray) : Option (ByteArray × ByteArray × Bool) :=
  if a1.data.size = 1 then (if a0.size ≤ 9223372036854775807 then some (Cut.cutB a0 (a1.data.getD 0 0)) else none) else none
theorem strings_Cut.calls (a0 : ByteArray) (a1 : ByteArray) (r1 : ByteArray) (r2 : ByteArray) (r3 : Bool) (w : World) (h : strings_Cut.f a0 a1 = some (r1, r2, r3)) :
 Calls Tryz.prog 72 #[.string a0, .string a1] w fun e w' => e = .returned (.tuple #[.string r1, .string r2, .bool r3]) ∧ Drawn0 w w' := by
 unfold strings_Cut.f at h;split at h
 ·rename_i h1;split at h
  ·rename_i h2;obtain ⟨⟨l⟩⟩ := a1
   match l, h1 with
   | [c], _ =>
    have h3 := Option.some.inj h;refine (Cut.cut_calls a0 c w h2).mono ?_;rintro e w' ⟨rfl, n, rfl⟩;have h4 : Cut.cutB a0 c = (r1, r2, r3) := h3;rw [h4];exact ⟨rfl, ⟨⟨n, rfl⟩⟩⟩
  ·cases h
 ·cases h
def version_Parse.go (k : Nat) (pre : ByteArray) : List ByteArray → Int → Int → Int → Nat → Option (Int × Int × Int × ByteArray × Bool)
  | [], n0, n1, n2, _ => (version_right.f k n0 n1 n2 pre).bind fun g => if g = true then some (n0, n1, n2, pre, true) else some (0, 0, 0, ⟨#[]⟩, false)
  | x :: xs, n0, n1, n2, i => (version_number.f x).bind fun n => if n.2.2 = false then some (0, 0, 0, ⟨#[]⟩, false) else
      version_Parse.go k pre xs (if i = 0 then n.1 else n0) (if i = 1 then n.1 else n1) (if i = 2 then n.1 else n2) (i + 1)
def version_Parse.f (k : Nat) (a0 : ByteArray) : Option (Int × Int × Int × ByteArray × Bool) :=
  (strings_Cut.f a0 ⟨#[45]⟩).bind fun c => (strings_Split.f k c.1 ⟨#[46]⟩).bind fun l =>
    if l.length = 3 then (if (c.2.2 && c.2.1.toList.isEmpty) = true then some (0, 0, 0, ⟨#[]⟩, false) else version_Parse.go k c.2.1 l 0 0 0 0) else some (0, 0, 0, ⟨#[]⟩, false)
theorem version_Parse.keep {w w' : World} {b : Nat} {o : Obj} (h : w.heap[b]? = some o) (hb : Below w.heap.size w w') : w'.heap[b]? = some o := (hb.block b (Array.getElem?_eq_some_iff.1 h).1).trans h
theorem version_Parse.cells {W : World} {b t : Nat} {v0 v1 v2 v3 : Value} (h : W.heap[b]? = some (.cells #[v0, v1, v2, v3] t (0, 0))) :
    W.cell? ⟨b, 0, none⟩ = some v0 ∧ W.cell? ⟨b, 1, none⟩ = some v1 ∧ W.cell? ⟨b, 2, none⟩ = some v2 ∧ W.cell? ⟨b, 3, none⟩ = some v3 ∧
    W.frozen? ⟨b, 0, none⟩ = false ∧ W.frozen? ⟨b, 1, none⟩ = false ∧ W.frozen? ⟨b, 2, none⟩ = false ∧ W.frozen? ⟨b, 3, none⟩ = false := by
  simp [World.cell?, World.frozen?, h]
theorem version_Parse.cells3 {W : World} {b t : Nat} {v0 v1 v2 : Value} (h : W.heap[b]? = some (.cells #[v0, v1, v2] t (0, 0))) :
    W.cell? ⟨b, 0, none⟩ = some v0 ∧ W.cell? ⟨b, 1, none⟩ = some v1 ∧ W.cell? ⟨b, 2, none⟩ = some v2 ∧
    W.frozen? ⟨b, 0, none⟩ = false ∧ W.frozen? ⟨b, 1, none⟩ = false ∧ W.frozen? ⟨b, 2, none⟩ = false := by
  simp [World.cell?, World.frozen?, h]
theorem version_Parse.at {W : World} {A : Option Addr} {l : List ByteArray} (h : Kd.C Kd.string W A l.length l) (j : Nat) (x : ByteArray) (hx : l[j]? = some x) : ∃ b o, A = some ⟨b, o, none⟩ ∧ W.cell? ⟨b, o + j, none⟩ = some (.string x) := by
  obtain ⟨_, _, hcell⟩ := h
  have hj := (List.getElem?_eq_some_iff.1 hx).1
  obtain ⟨⟨b, o, sp⟩, rfl, hc⟩ := hcell (by omega)
  have hcell : ∀ (j : Nat) x, l[j]? = some x → W.cell? ((⟨b, o, sp⟩ : Addr).add j) = some (.string x) := fun j x hx => by
    obtain ⟨c, _, hk, hu⟩ := hc j x hx
    have hk' : c = [Value.string x] := hk
    have := hu 0 (.string x) (by rw [hk']; rfl)
    rw [Nat.add_zero] at this
    rw [show Kd.string.sz = 1 from rfl, Nat.mul_one] at this
    exact this
  have h00 := hcell 0 _ (List.getElem?_eq_getElem (by omega))
  rw [show (⟨b, o, sp⟩ : Addr).add 0 = ⟨b, o, sp⟩ from by simp [Addr.add]] at h00
  have hsp : sp = none := by
    unfold World.cell? at h00
    split at h00
    · cases sp with
      | none => rfl
      | some z => simp at h00
    · cases h00
  subst hsp
  have := hcell j x hx
  exact ⟨b, o, rfl, by rwa [show (⟨b, o, none⟩ : Addr).add j = ⟨b, o + j, none⟩ from by unfold Addr.add; split <;> simp_all] at this⟩
section
open Lib
set_option maxRecDepth 100000 in
set_option maxHeartbeats 4000000 in
theorem version_Parse.calls (k : Nat) (a0 : ByteArray) (r1 : Int) (r2 : Int) (r3 : Int) (r4 : ByteArray) (r5 : Bool) (w : World) (h : version_Parse.f k a0 = some (r1, r2, r3, r4, r5)) (hLD : LD w) :
 Calls Tryz.prog 44 #[.string a0] w fun e w' => e = .returned (.tuple #[.agg #[.int .i64 r1, .int .i64 r2, .int .i64 r3, .string r4], .bool r5]) ∧ Below w.heap.size w w' := by
 unfold version_Parse.f at h;obtain ⟨⟨c1, c2, c3⟩, hc, h⟩ := Option.bind_eq_some_iff.1 h;obtain ⟨l, hl, h⟩ := Option.bind_eq_some_iff.1 h;have hu := Tryz.underlying35;have CC := Lib.hid (fun W => strings_Cut.calls a0 ⟨#[45]⟩ c1 c2 c3 W hc);have CS := Lib.hid (fun W => strings_Split.calls k c1 ⟨#[46]⟩ l W hl)
 obtain ⟨W0, hW0⟩ : ∃ W0, w.alloc (Obj.cells #[.int .i64 0, .int .i64 0, .int .i64 0, .string ⟨#[]⟩] 35) = W0 := ⟨_, rfl⟩
 (have hs0 : W0.heap.size = w.heap.size + 1 := by rw [← hW0]; simp);have hk0 : Hid (∀ n, (W0.drewN n).heap[w.heap.size]? = some (Obj.cells #[.int .i64 0, .int .i64 0, .int .i64 0, .string ⟨#[]⟩] 35)) := Lib.hid (fun n => by rw [← hW0]; exact World.alloc_heap_new w _);have hB0 : Hid (∀ n, Below w.heap.size w (W0.drewN n)) := Lib.hid (fun n => by rw [← hW0]; exact pw_below_drewN ((Below.refl _ w).alloc (Nat.le_refl _) _) n);clear hc hl;by_cases hn3 : l.length = 3
 ·rw [if_pos hn3] at h
  obtain ⟨t, ht⟩ : ∃ t, (c3 && c2.toList.isEmpty) = t := ⟨_, rfl⟩
  (have h3 : (l.length : Int) = 3 := by omega);(have h3' : (((l.length : Int)) != 3) = false := by rw [h3]; rfl);rw [ht] at h
  cases t with
  | true =>
   rw [Bool.and_eq_true] at ht;obtain ⟨rfl, hce⟩ := ht;(obtain ⟨rfl, rfl, rfl, rfl, rfl⟩ : 0 = r1 ∧ 0 = r2 ∧ 0 = r3 ∧ (⟨#[]⟩ : ByteArray) = r4 ∧ false = r5 := by simpa using h);clear h;(go_enter Tryz.func44, Tryz.ntmps44);go_wp2_with (first | (go_at_call 72; (try rw [hW0]); refine (CC.out _).mono ?_; rintro e w' ⟨rfl, ⟨n, rfl⟩⟩) | (go_at_call 73; refine (CS.out _).mono ?_; rintro e w1 ⟨v, rfl, hr, hb⟩; obtain ⟨A, cp, rfl⟩ := Kd.R_slice hr; have hk := version_Parse.keep (hk0.out n) hb; obtain ⟨p0, p1, p2, p3, q0, q1, q2, q3⟩ := version_Parse.cells hk));have hB1 := (hB0.out n).trans (hb.mono (by simp [hs0]));refine bodyPost_ret (v := .tuple #[.agg #[.int .i64 0, .int .i64 0, .int .i64 0, .string ⟨#[]⟩], .bool false]) ?_ rfl ⟨rfl, ?_⟩
   ·simp [results, Tryz.f44, go_sem, p0, p1, p2, p3]
   ·repeat (first | exact hB1 | refine below_set ?_ (by omega))
  | false =>
   rw [if_neg (by decide)] at h;have H := Lib.hid h
   have hcs : c3 = false ∨ c3 = true ∧ c2.toList.isEmpty = false := by
    cases c3
    ·exact .inl rfl
    ·exact .inr ⟨rfl, by simpa using ht⟩
   clear ht h;(rcases hcs with rfl | ⟨rfl, hce⟩)
   all_goals
    go_enter Tryz.func44, Tryz.ntmps44
    go_wp2_with (first | (go_at_call 72; (try rw [hW0]); refine (CC.out _).mono ?_; rintro e w' ⟨rfl, ⟨n, rfl⟩⟩) | (go_at_call 73; refine (CS.out _).mono ?_; rintro e w1 ⟨v, rfl, hr, hb⟩; obtain ⟨A, cp, rfl⟩ := Kd.R_slice hr; have hk := version_Parse.keep (hk0.out n) hb))
    have hB1 := (hB0.out n).trans (hb.mono (by simp [hs0]))
    have hN1 : w.heap.size < w1.heap.size := by have := hb.size; simp [hs0] at this; omega
    obtain ⟨W2, hW2⟩ : ∃ W2, w1.alloc (Obj.cells #[.int .i64 0, .int .i64 0, .int .i64 0] 98) = W2 := ⟨_, rfl⟩
    have hz2 : W2.heap.size = w1.heap.size + 1 := by rw [← hW2]; simp
    have har2 : W2.heap[w1.heap.size]? = some (Obj.cells #[.int .i64 0, .int .i64 0, .int .i64 0] 98) := by rw [← hW2]; exact World.alloc_heap_new _ _
    have hC1 := Lib.hid (Kd.R_reads' hr).2.2
    have hB2 : Below w1.heap.size w1 W2 := by rw [← hW2]; exact (Below.refl _ w1).alloc (Nat.le_refl _) _
    have HK1 := Lib.hid hk
    clear hk
    (try rw [hW2])
    go_loopg [36] 3 (fun kq v36 W => ∃ (i : Nat) (n0 n1 n2 : Int), v36 = .int .i64 (i : Nat) ∧ Hid (kq = 3 - i ∧ i ≤ 3) ∧ Hid (version_Parse.go k c2 (l.drop i) n0 n1 n2 i = some (r1, r2, r3, r4, r5)) ∧
     Hid (W.heap[w1.heap.size]? = some (Obj.cells #[.int .i64 n0, .int .i64 n1, .int .i64 n2] 98)) ∧ Hid (Below w1.heap.size w1 W))
    case atStart => exact ⟨0, 0, 0, 0, rfl, Lib.hid ⟨rfl, by omega⟩, Lib.hid H.out, Lib.hid har2, Lib.hid hB2⟩
    case round =>
     obtain ⟨i, n0, n1, n2, rfl, Hk, Hg, Har, HBW⟩ := hrel
     have Hst := Lib.hid (version_Parse.keep HK1.out HBW.out)
     have HC := Lib.hid (Kd.C_below hC1.out HBW.out)
     have HB : Hid (Below w.heap.size w wr) := Lib.hid (hB1.trans (HBW.out.mono (by omega)))
     have hi := Hk.out.2
     by_cases hi3 : i = 3
     ·subst hi3
      have hg := Hg.out
      rw [List.drop_of_length_le (by omega)] at hg
      simp only [version_Parse.go] at hg
      obtain ⟨g, hgr, hg2⟩ := Option.bind_eq_some_iff.1 hg
      have CR := Lib.hid (fun W h => version_right.calls k n0 n1 n2 c2 g W hgr h)
      obtain ⟨y0, y1, y2, z0, z1, z2⟩ := version_Parse.cells3 Har.out
      have HG2 := Lib.hid hg2
      have hlt := (Array.getElem?_eq_some_iff.1 Hst.out).1
      have HLD : Hid (∀ o, LD (wr.alloc o)) := Lib.hid (fun o => hLD.below (HB.out.alloc (by omega) o))
      have HKP : Hid (∀ o w3, Below (wr.alloc o).heap.size (wr.alloc o) w3 → w3.heap[w.heap.size]? = some (Obj.cells #[.int .i64 0, .int .i64 0, .int .i64 0, .string ⟨#[]⟩] 35) ∧ w3.heap[wr.heap.size]? = some o ∧ Below w.heap.size w w3) := Lib.hid (fun o w3 hb3 =>
       ⟨version_Parse.keep ((Below.heap_alloc wr o _ hlt).trans Hst.out) hb3, version_Parse.keep (World.alloc_heap_new wr o) hb3, (HB.out.alloc (by omega) o).trans (hb3.mono (by simp; omega))⟩)
      clear hg hg2 hgr
      cases g
      all_goals
       go_wp2_with (first | (go_at_call 39; refine (CR.out _ (HLD.out _)).mono ?_; rintro e w3 ⟨rfl, hb3⟩; obtain ⟨h1_, h2_, hB3⟩ := HKP.out _ _ hb3; obtain ⟨p0, p1, p2, p3, q0, q1, q2, q3⟩ := version_Parse.cells h1_; obtain ⟨s0, s1, s2, s3, _, _, _, _⟩ := version_Parse.cells h2_))
      ·obtain ⟨rfl, rfl, rfl, rfl, rfl⟩ : 0 = r1 ∧ 0 = r2 ∧ 0 = r3 ∧ (⟨#[]⟩ : ByteArray) = r4 ∧ false = r5 := by simpa using HG2.out
       refine bodyPost_ret (v := .tuple #[.agg #[.int .i64 0, .int .i64 0, .int .i64 0, .string ⟨#[]⟩], .bool false]) ?_ rfl ⟨rfl, ?_⟩
       ·simp [results, Tryz.f44, go_sem, p0, p1, p2, p3]
       ·repeat (first | exact hB3 | refine below_set ?_ (by omega))
      ·obtain ⟨rfl, rfl, rfl, rfl, rfl⟩ : n0 = r1 ∧ n1 = r2 ∧ n2 = r3 ∧ c2 = r4 ∧ true = r5 := by simpa using HG2.out
       refine bodyPost_ret (v := .tuple #[.agg #[.int .i64 n0, .int .i64 n1, .int .i64 n2, .string c2], .bool true]) ?_ rfl ⟨rfl, ?_⟩
       ·simp [results, Tryz.f44, go_sem, p0, p1, p2, p3]
       ·repeat (first | exact hB3 | refine below_set ?_ (by omega))
     ·obtain ⟨x, hx⟩ : ∃ x, l[i]? = some x := ⟨_, List.getElem?_eq_getElem (by omega)⟩
      have hg := Hg.out
      rw [List.drop_eq_getElem_cons (List.getElem?_eq_some_iff.1 hx).1, (List.getElem?_eq_some_iff.1 hx).2] at hg
      simp only [version_Parse.go] at hg
      obtain ⟨⟨nn, pp, oo⟩, hnum, hg2⟩ := Option.bind_eq_some_iff.1 hg
      have CN := Lib.hid (fun W h => version_number.calls x nn pp oo W hnum h)
      have HLD : LD wr := hLD.below HB.out
      obtain ⟨ab, ao, hA, hcell⟩ := version_Parse.at HC.out i x hx
      have HN := Lib.hid hg2
      subst hA
      clear hg hg2 hnum
      have hi012 : i = 0 ∨ i = 1 ∨ i = 2 := by omega
      cases oo <;> rcases hi012 with rfl | rfl | rfl
      all_goals (try simp only [Nat.add_zero] at hcell)
      all_goals
       go_wp2_with (first | (go_at_call 74; refine (CN.out _ HLD).mono ?_; rintro e w2 ⟨rfl, hb2⟩; have hst2' := version_Parse.keep Hst.out hb2; have har2' := version_Parse.keep Har.out hb2; obtain ⟨y0, y1, y2, z0, z1, z2⟩ := version_Parse.cells3 har2'; obtain ⟨p0, p1, p2, p3, q0, q1, q2, q3⟩ := version_Parse.cells hst2'))
      ·obtain ⟨rfl, rfl, rfl, rfl, rfl⟩ : 0 = r1 ∧ 0 = r2 ∧ 0 = r3 ∧ (⟨#[]⟩ : ByteArray) = r4 ∧ false = r5 := by simpa using HN.out
       have hBe := HB.out.trans (hb2.mono HB.out.size)
       refine bodyPost_ret (v := .tuple #[.agg #[.int .i64 0, .int .i64 0, .int .i64 0, .string ⟨#[]⟩], .bool false]) ?_ rfl ⟨rfl, ?_⟩
       ·simp [results, Tryz.f44, go_sem, p0, p1, p2, p3]
       ·repeat (first | exact hBe | refine below_set ?_ (by omega))
      ·obtain ⟨rfl, rfl, rfl, rfl, rfl⟩ : 0 = r1 ∧ 0 = r2 ∧ 0 = r3 ∧ (⟨#[]⟩ : ByteArray) = r4 ∧ false = r5 := by simpa using HN.out
       have hBe := HB.out.trans (hb2.mono HB.out.size)
       refine bodyPost_ret (v := .tuple #[.agg #[.int .i64 0, .int .i64 0, .int .i64 0, .string ⟨#[]⟩], .bool false]) ?_ rfl ⟨rfl, ?_⟩
       ·simp [results, Tryz.f44, go_sem, p0, p1, p2, p3]
       ·repeat (first | exact hBe | refine below_set ?_ (by omega))
      ·obtain ⟨rfl, rfl, rfl, rfl, rfl⟩ : 0 = r1 ∧ 0 = r2 ∧ 0 = r3 ∧ (⟨#[]⟩ : ByteArray) = r4 ∧ false = r5 := by simpa using HN.out
       have hBe := HB.out.trans (hb2.mono HB.out.size)
       refine bodyPost_ret (v := .tuple #[.agg #[.int .i64 0, .int .i64 0, .int .i64 0, .string ⟨#[]⟩], .bool false]) ?_ rfl ⟨rfl, ?_⟩
       ·simp [results, Tryz.f44, go_sem, p0, p1, p2, p3]
       ·repeat (first | exact hBe | refine below_set ?_ (by omega))
      ·go_roundg 2
       case rel =>
        refine ⟨1, nn, n1, n2, rfl, Lib.hid ⟨rfl, by omega⟩, Lib.hid (by simpa using HN.out), Lib.hid ?_, Lib.hid (below_set (HBW.out.trans (hb2.mono HBW.out.size)) (Nat.le_refl _))⟩
        have := heap_setCell_same w2 w1.heap.size 0 _ _ (.int .i64 nn) har2'
        simpa using this
       case measure => have := Hk.out.1; omega
      ·go_roundg 1
       case rel =>
        refine ⟨2, n0, nn, n2, rfl, Lib.hid ⟨rfl, by omega⟩, Lib.hid (by simpa using HN.out), Lib.hid ?_, Lib.hid (below_set (HBW.out.trans (hb2.mono HBW.out.size)) (Nat.le_refl _))⟩
        have := heap_setCell_same w2 w1.heap.size 1 _ _ (.int .i64 nn) har2'
        simpa using this
       case measure => have := Hk.out.1; omega
      ·go_roundg 0
       case rel =>
        refine ⟨3, n0, n1, nn, rfl, Lib.hid ⟨rfl, by omega⟩, Lib.hid (by simpa using HN.out), Lib.hid ?_, Lib.hid (below_set (HBW.out.trans (hb2.mono HBW.out.size)) (Nat.le_refl _))⟩
        have := heap_setCell_same w2 w1.heap.size 2 _ _ (.int .i64 nn) har2'
        simpa using this
       case measure => have := Hk.out.1; omega
 ·rw [if_neg hn3] at h;(have hn3' : ((l.length : Int) != 3) = true := by simpa [bne_iff_ne] using fun e => hn3 (by omega));(obtain ⟨rfl, rfl, rfl, rfl, rfl⟩ : 0 = r1 ∧ 0 = r2 ∧ 0 = r3 ∧ (⟨#[]⟩ : ByteArray) = r4 ∧ false = r5 := by simpa using h);clear h;(go_enter Tryz.func44, Tryz.ntmps44);go_wp2_with (first | (go_at_call 72; (try rw [hW0]); refine (CC.out _).mono ?_; rintro e w' ⟨rfl, ⟨n, rfl⟩⟩) | (go_at_call 73; refine (CS.out _).mono ?_; rintro e w1 ⟨v, rfl, hr, hb⟩; obtain ⟨A, cp, rfl⟩ := Kd.R_slice hr; have hk := version_Parse.keep (hk0.out n) hb; obtain ⟨p0, p1, p2, p3, q0, q1, q2, q3⟩ := version_Parse.cells hk));have hB1 := (hB0.out n).trans (hb.mono (by simp [hs0]));refine bodyPost_ret (v := .tuple #[.agg #[.int .i64 0, .int .i64 0, .int .i64 0, .string ⟨#[]⟩], .bool false]) ?_ rfl ⟨rfl, ?_⟩
  ·simp [results, Tryz.f44, go_sem, p0, p1, p2, p3]
  ·(repeat (first | exact hB1 | refine below_set ?_ (by omega)))
end
def span_above.f (a0_0 : Int) (a0_1 : Int) (a0_2 : Int) (a0_3 : ByteArray) (a1 : Bool) : Option (Int × Int × Int × ByteArray) := if a1 = true then (some (a0_0, wrap64 (a0_1 + 1), 0, (⟨#[]⟩ : ByteArray))) else (if a0_0 > 0 then (some (wrap64 (a0_0 + 1), 0, 0, (⟨#[]⟩ : ByteArray))) else (if a0_1 > 0 then (some (a0_0, wrap64 (a0_1 + 1), 0, (⟨#[]⟩ : ByteArray))) else (some (a0_0, a0_1, wrap64 (a0_2 + 1), (⟨#[]⟩ : ByteArray)))))
theorem span_above.calls (a0_0 : Int) (a0_1 : Int) (a0_2 : Int) (a0_3 : ByteArray) (a1 : Bool) (r1 : Int) (r2 : Int) (r3 : Int) (r4 : ByteArray) (w : World) (h : span_above.f a0_0 a0_1 a0_2 a0_3 a1 = some (r1, r2, r3, r4)) :
 Calls Tryz.prog 45 #[.agg #[.int .i64 a0_0, .int .i64 a0_1, .int .i64 a0_2, .string a0_3], .bool a1] w fun e w' => e = .returned (.agg #[.int .i64 r1, .int .i64 r2, .int .i64 r3, .string r4]) ∧ Below w.heap.size w w' := by
 have hu35 := Tryz.underlying35;have HB := Aside0.mk (Below.refl w.heap.size w);have H : (if a1 = true then (some (a0_0, wrap64 (a0_1 + 1), 0, (⟨#[]⟩ : ByteArray))) else (if a0_0 > 0 then (some (wrap64 (a0_0 + 1), 0, 0, (⟨#[]⟩ : ByteArray))) else (if a0_1 > 0 then (some (a0_0, wrap64 (a0_1 + 1), 0, (⟨#[]⟩ : ByteArray))) else (some (a0_0, a0_1, wrap64 (a0_2 + 1), (⟨#[]⟩ : ByteArray)))))) = some (r1, r2, r3, r4) := h;clear h;by_cases c3 : a1 = true
 ·subst c3;(have H1 : (some (a0_0, wrap64 (a0_1 + 1), 0, (⟨#[]⟩ : ByteArray))) = some (r1, r2, r3, r4) := by rw [if_pos rfl] at H; exact H);clear H;have H := H1;clear H1;simp only [Option.some.injEq, Prod.mk.injEq] at H;obtain ⟨rfl, rfl, rfl, rfl⟩ := H;(go_enter Tryz.func45, Tryz.ntmps45);go_wp2_with (first | ((with_reducible refine gate_dst (N := 2) rfl ?_); refine box_event ?hg (N := 2) ?hd (cs := #[.int .i64 a0_0, .int .i64 a0_1, .int .i64 a0_2, .string a0_3]) (t := 35) ?hr ?_; (case hd => rfl); (case hg => rfl); (case hr => first | (go_simp; done) | (go_simp; rfl)); intro gb192 hg w4 hbox hb; have n0_ := Aside0.mk (below_step (sL HB.out) hb); have n1_ := Aside0.mk (hbox); have n2_ := Aside0.mk ((by rw [hg]; exact (below_size (sL HB.out)) : w.heap.size ≤ gb192)); have n3_ := Aside0.mk ((by rw [hg]; exact (below_size (sL HB.out)) : w.heap.size ≤ gb192)); clear HB; have HB := n0_; have BK192 := n1_; have GW192 := n2_; have GE192 := n3_; clear n0_ n1_ n2_ n3_; clear hb hbox hg) | ((with_reducible refine gate_dst (N := 4) rfl ?_); refine box_event ?hg (N := 4) ?hd (cs := #[.int .i64 0, .int .i64 0, .int .i64 0, .string (⟨#[]⟩ : ByteArray)]) (t := 35) ?hr ?_; (case hd => rfl); (case hg => rfl); (case hr => first | (go_simp; done) | (go_simp; rfl)); intro gb193 hg w5 hbox hb; have n0_ := Aside0.mk (blk_below (g := gb192) (o := .cells #[.int .i64 a0_0, .int .i64 a0_1, .int .i64 a0_2, .string a0_3] 35 (0, 0)) (sB BK192.out) hb); have n1_ := Aside0.mk (below_step (sL1 HB.out GE192.out) hb); have n2_ := Aside0.mk (hbox); have n3_ := Aside0.mk ((by rw [hg]; exact (below_size (sL1 HB.out GE192.out)) : w.heap.size ≤ gb193)); have n4_ := Aside0.mk ((by rw [hg]; exact (below_size (sL1 HB.out GE192.out)) : w.heap.size ≤ gb193)); have n5_ := Aside0.mk ((by rw [hg]; exact Nat.ne_of_lt (blk_lt (g := gb192) (o := .cells #[.int .i64 a0_0, .int .i64 a0_1, .int .i64 a0_2, .string a0_3] 35 (0, 0)) (sB BK192.out)) : gb192 ≠ gb193)); have n6_ := Aside0.mk ((by rw [hg]; exact Nat.ne_of_gt (blk_lt (g := gb192) (o := .cells #[.int .i64 a0_0, .int .i64 a0_1, .int .i64 a0_2, .string a0_3] 35 (0, 0)) (sB BK192.out)) : gb193 ≠ gb192)); clear BK192; clear HB; have BK192 := n0_; have HB := n1_; have BK193 := n2_; have GW193 := n3_; have GE193 := n4_; have NB192_193 := n5_; have NB193_192 := n6_; clear n0_ n1_ n2_ n3_ n4_ n5_ n6_; clear hb hbox hg; have hnb6 := NB192_193.out; have hnc6 := NB193_192.out; have hcz7_0 : w5.cell? ⟨gb192, 0, none⟩ = some (.int .i64 a0_0) := (blk_cell BK192.out 0).trans rfl; have hcz7_1 : w5.cell? ⟨gb192, 1, none⟩ = some (.int .i64 a0_1) := (blk_cell BK192.out 1).trans rfl; have hcz7_2 : w5.cell? ⟨gb192, 2, none⟩ = some (.int .i64 a0_2) := (blk_cell BK192.out 2).trans rfl; have hcz7_3 : w5.cell? ⟨gb192, 3, none⟩ = some (.string a0_3) := (blk_cell BK192.out 3).trans rfl; have hfz7_0 := blk_frozen BK192.out 0; have hfz7_1 := blk_frozen BK192.out 1; have hfz7_2 := blk_frozen BK192.out 2; have hfz7_3 := blk_frozen BK192.out 3; have hcz8_0 : w5.cell? ⟨gb193, 0, none⟩ = some (.int .i64 0) := (blk_cell BK193.out 0).trans rfl; have hcz8_1 : w5.cell? ⟨gb193, 1, none⟩ = some (.int .i64 0) := (blk_cell BK193.out 1).trans rfl; have hcz8_2 : w5.cell? ⟨gb193, 2, none⟩ = some (.int .i64 0) := (blk_cell BK193.out 2).trans rfl; have hcz8_3 : w5.cell? ⟨gb193, 3, none⟩ = some (.string (⟨#[]⟩ : ByteArray)) := (blk_cell BK193.out 3).trans rfl; have hfz8_0 := blk_frozen BK193.out 0; have hfz8_1 := blk_frozen BK193.out 1; have hfz8_2 := blk_frozen BK193.out 2; have hfz8_3 := blk_frozen BK193.out 3));refine bodyPost_ret (results_cell_row rfl _ _ gb193 35 #[.int .i64 a0_0, .int .i64 (wrap64 (a0_1 + 1)), .int .i64 0, .string (⟨#[]⟩ : ByteArray)] (0, 0) _ rfl (by refine sB ?_; refine blk_put (cs := #[.int .i64 a0_0, .int .i64 (wrap64 (a0_1 + 1)), .int .i64 0, .string (⟨#[]⟩ : ByteArray)]) ?_ 3 _ rfl; refine sB ?_; refine blk_put (cs := #[.int .i64 a0_0, .int .i64 (wrap64 (a0_1 + 1)), .int .i64 0, .string (⟨#[]⟩ : ByteArray)]) ?_ 2 _ rfl; refine sB ?_; refine blk_put (cs := #[.int .i64 a0_0, .int .i64 0, .int .i64 0, .string (⟨#[]⟩ : ByteArray)]) ?_ 1 _ rfl; refine sB ?_; refine blk_put (cs := #[.int .i64 0, .int .i64 0, .int .i64 0, .string (⟨#[]⟩ : ByteArray)]) ?_ 0 _ rfl; refine sB ?_; refine blk_far ?_ NB193_192.out _; refine sB ?_; refine blk_far ?_ NB193_192.out _; refine sB ?_; refine blk_far ?_ NB193_192.out _; refine sB ?_; exact BK193.out) Tryz.underlying35 rfl (by kernel_rfl)) rfl ?_;exact ⟨by first | rfl | (simp [errW_none, errW_some] <;> rfl) | (simp [*, errW_none, errW_some] <;> rfl), sL2 HB.out GE192.out GE193.out⟩
 ·replace c3 := Bool.eq_false_iff.mpr c3;subst c3;(have H1 : (if a0_0 > 0 then (some (wrap64 (a0_0 + 1), 0, 0, (⟨#[]⟩ : ByteArray))) else (if a0_1 > 0 then (some (a0_0, wrap64 (a0_1 + 1), 0, (⟨#[]⟩ : ByteArray))) else (some (a0_0, a0_1, wrap64 (a0_2 + 1), (⟨#[]⟩ : ByteArray))))) = some (r1, r2, r3, r4) := by rw [if_neg (show ¬ (false = true) by decide)] at H; exact H);clear H;have H := H1;clear H1;by_cases c9 : a0_0 > 0
  ·rw [if_pos c9] at H;have c9b0 := decide_eq_true c9;clear c9;simp only [Option.some.injEq, Prod.mk.injEq] at H;obtain ⟨rfl, rfl, rfl, rfl⟩ := H;(go_enter Tryz.func45, Tryz.ntmps45);go_wp2_with (first | ((with_reducible refine gate_dst (N := 2) rfl ?_); refine box_event ?hg (N := 2) ?hd (cs := #[.int .i64 a0_0, .int .i64 a0_1, .int .i64 a0_2, .string a0_3]) (t := 35) ?hr ?_; (case hd => rfl); (case hg => rfl); (case hr => first | (go_simp; done) | (go_simp; rfl)); intro gb192 hg w10 hbox hb; have n0_ := Aside0.mk (below_step (sL HB.out) hb); have n1_ := Aside0.mk (hbox); have n2_ := Aside0.mk ((by rw [hg]; exact (below_size (sL HB.out)) : w.heap.size ≤ gb192)); have n3_ := Aside0.mk ((by rw [hg]; exact (below_size (sL HB.out)) : w.heap.size ≤ gb192)); clear HB; have HB := n0_; have BK192 := n1_; have GW192 := n2_; have GE192 := n3_; clear n0_ n1_ n2_ n3_; clear hb hbox hg) | ((with_reducible refine gate_dst (N := 4) rfl ?_); refine box_event ?hg (N := 4) ?hd (cs := #[.int .i64 0, .int .i64 0, .int .i64 0, .string (⟨#[]⟩ : ByteArray)]) (t := 35) ?hr ?_; (case hd => rfl); (case hg => rfl); (case hr => first | (go_simp; done) | (go_simp; rfl)); intro gb193 hg w11 hbox hb; have n0_ := Aside0.mk (blk_below (g := gb192) (o := .cells #[.int .i64 a0_0, .int .i64 a0_1, .int .i64 a0_2, .string a0_3] 35 (0, 0)) (sB BK192.out) hb); have n1_ := Aside0.mk (below_step (sL1 HB.out GE192.out) hb); have n2_ := Aside0.mk (hbox); have n3_ := Aside0.mk ((by rw [hg]; exact (below_size (sL1 HB.out GE192.out)) : w.heap.size ≤ gb193)); have n4_ := Aside0.mk ((by rw [hg]; exact (below_size (sL1 HB.out GE192.out)) : w.heap.size ≤ gb193)); have n5_ := Aside0.mk ((by rw [hg]; exact Nat.ne_of_lt (blk_lt (g := gb192) (o := .cells #[.int .i64 a0_0, .int .i64 a0_1, .int .i64 a0_2, .string a0_3] 35 (0, 0)) (sB BK192.out)) : gb192 ≠ gb193)); have n6_ := Aside0.mk ((by rw [hg]; exact Nat.ne_of_gt (blk_lt (g := gb192) (o := .cells #[.int .i64 a0_0, .int .i64 a0_1, .int .i64 a0_2, .string a0_3] 35 (0, 0)) (sB BK192.out)) : gb193 ≠ gb192)); clear BK192; clear HB; have BK192 := n0_; have HB := n1_; have BK193 := n2_; have GW193 := n3_; have GE193 := n4_; have NB192_193 := n5_; have NB193_192 := n6_; clear n0_ n1_ n2_ n3_ n4_ n5_ n6_; clear hb hbox hg; have hnb12 := NB192_193.out; have hnc12 := NB193_192.out; have hcz13_0 : w11.cell? ⟨gb192, 0, none⟩ = some (.int .i64 a0_0) := (blk_cell BK192.out 0).trans rfl; have hcz13_1 : w11.cell? ⟨gb192, 1, none⟩ = some (.int .i64 a0_1) := (blk_cell BK192.out 1).trans rfl; have hcz13_2 : w11.cell? ⟨gb192, 2, none⟩ = some (.int .i64 a0_2) := (blk_cell BK192.out 2).trans rfl; have hcz13_3 : w11.cell? ⟨gb192, 3, none⟩ = some (.string a0_3) := (blk_cell BK192.out 3).trans rfl; have hfz13_0 := blk_frozen BK192.out 0; have hfz13_1 := blk_frozen BK192.out 1; have hfz13_2 := blk_frozen BK192.out 2; have hfz13_3 := blk_frozen BK192.out 3; have hcz14_0 : w11.cell? ⟨gb193, 0, none⟩ = some (.int .i64 0) := (blk_cell BK193.out 0).trans rfl; have hcz14_1 : w11.cell? ⟨gb193, 1, none⟩ = some (.int .i64 0) := (blk_cell BK193.out 1).trans rfl; have hcz14_2 : w11.cell? ⟨gb193, 2, none⟩ = some (.int .i64 0) := (blk_cell BK193.out 2).trans rfl; have hcz14_3 : w11.cell? ⟨gb193, 3, none⟩ = some (.string (⟨#[]⟩ : ByteArray)) := (blk_cell BK193.out 3).trans rfl; have hfz14_0 := blk_frozen BK193.out 0; have hfz14_1 := blk_frozen BK193.out 1; have hfz14_2 := blk_frozen BK193.out 2; have hfz14_3 := blk_frozen BK193.out 3));refine bodyPost_ret (results_cell_row rfl _ _ gb193 35 #[.int .i64 (wrap64 (a0_0 + 1)), .int .i64 0, .int .i64 0, .string (⟨#[]⟩ : ByteArray)] (0, 0) _ rfl (by refine sB ?_; refine blk_put (cs := #[.int .i64 (wrap64 (a0_0 + 1)), .int .i64 0, .int .i64 0, .string (⟨#[]⟩ : ByteArray)]) ?_ 3 _ rfl; refine sB ?_; refine blk_put (cs := #[.int .i64 (wrap64 (a0_0 + 1)), .int .i64 0, .int .i64 0, .string (⟨#[]⟩ : ByteArray)]) ?_ 2 _ rfl; refine sB ?_; refine blk_put (cs := #[.int .i64 (wrap64 (a0_0 + 1)), .int .i64 0, .int .i64 0, .string (⟨#[]⟩ : ByteArray)]) ?_ 1 _ rfl; refine sB ?_; refine blk_put (cs := #[.int .i64 0, .int .i64 0, .int .i64 0, .string (⟨#[]⟩ : ByteArray)]) ?_ 0 _ rfl; refine sB ?_; refine blk_far ?_ NB193_192.out _; refine sB ?_; refine blk_far ?_ NB193_192.out _; refine sB ?_; refine blk_far ?_ NB193_192.out _; refine sB ?_; refine blk_far ?_ NB193_192.out _; refine sB ?_; exact BK193.out) Tryz.underlying35 rfl (by kernel_rfl)) rfl ?_;exact ⟨by first | rfl | (simp [errW_none, errW_some] <;> rfl) | (simp [*, errW_none, errW_some] <;> rfl), sL2 HB.out GE192.out GE193.out⟩
  ·rw [if_neg c9] at H;have c9b0 := decide_eq_false c9;clear c9;by_cases c15 : a0_1 > 0
   ·rw [if_pos c15] at H;have c15b0 := decide_eq_true c15;clear c15;simp only [Option.some.injEq, Prod.mk.injEq] at H;obtain ⟨rfl, rfl, rfl, rfl⟩ := H;(go_enter Tryz.func45, Tryz.ntmps45);go_wp2_with (first | ((with_reducible refine gate_dst (N := 2) rfl ?_); refine box_event ?hg (N := 2) ?hd (cs := #[.int .i64 a0_0, .int .i64 a0_1, .int .i64 a0_2, .string a0_3]) (t := 35) ?hr ?_; (case hd => rfl); (case hg => rfl); (case hr => first | (go_simp; done) | (go_simp; rfl)); intro gb192 hg w16 hbox hb; have n0_ := Aside0.mk (below_step (sL HB.out) hb); have n1_ := Aside0.mk (hbox); have n2_ := Aside0.mk ((by rw [hg]; exact (below_size (sL HB.out)) : w.heap.size ≤ gb192)); have n3_ := Aside0.mk ((by rw [hg]; exact (below_size (sL HB.out)) : w.heap.size ≤ gb192)); clear HB; have HB := n0_; have BK192 := n1_; have GW192 := n2_; have GE192 := n3_; clear n0_ n1_ n2_ n3_; clear hb hbox hg) | ((with_reducible refine gate_dst (N := 4) rfl ?_); refine box_event ?hg (N := 4) ?hd (cs := #[.int .i64 0, .int .i64 0, .int .i64 0, .string (⟨#[]⟩ : ByteArray)]) (t := 35) ?hr ?_; (case hd => rfl); (case hg => rfl); (case hr => first | (go_simp; done) | (go_simp; rfl)); intro gb193 hg w17 hbox hb; have n0_ := Aside0.mk (blk_below (g := gb192) (o := .cells #[.int .i64 a0_0, .int .i64 a0_1, .int .i64 a0_2, .string a0_3] 35 (0, 0)) (sB BK192.out) hb); have n1_ := Aside0.mk (below_step (sL1 HB.out GE192.out) hb); have n2_ := Aside0.mk (hbox); have n3_ := Aside0.mk ((by rw [hg]; exact (below_size (sL1 HB.out GE192.out)) : w.heap.size ≤ gb193)); have n4_ := Aside0.mk ((by rw [hg]; exact (below_size (sL1 HB.out GE192.out)) : w.heap.size ≤ gb193)); have n5_ := Aside0.mk ((by rw [hg]; exact Nat.ne_of_lt (blk_lt (g := gb192) (o := .cells #[.int .i64 a0_0, .int .i64 a0_1, .int .i64 a0_2, .string a0_3] 35 (0, 0)) (sB BK192.out)) : gb192 ≠ gb193)); have n6_ := Aside0.mk ((by rw [hg]; exact Nat.ne_of_gt (blk_lt (g := gb192) (o := .cells #[.int .i64 a0_0, .int .i64 a0_1, .int .i64 a0_2, .string a0_3] 35 (0, 0)) (sB BK192.out)) : gb193 ≠ gb192)); clear BK192; clear HB; have BK192 := n0_; have HB := n1_; have BK193 := n2_; have GW193 := n3_; have GE193 := n4_; have NB192_193 := n5_; have NB193_192 := n6_; clear n0_ n1_ n2_ n3_ n4_ n5_ n6_; clear hb hbox hg; have hnb18 := NB192_193.out; have hnc18 := NB193_192.out; have hcz19_0 : w17.cell? ⟨gb192, 0, none⟩ = some (.int .i64 a0_0) := (blk_cell BK192.out 0).trans rfl; have hcz19_1 : w17.cell? ⟨gb192, 1, none⟩ = some (.int .i64 a0_1) := (blk_cell BK192.out 1).trans rfl; have hcz19_2 : w17.cell? ⟨gb192, 2, none⟩ = some (.int .i64 a0_2) := (blk_cell BK192.out 2).trans rfl; have hcz19_3 : w17.cell? ⟨gb192, 3, none⟩ = some (.string a0_3) := (blk_cell BK192.out 3).trans rfl; have hfz19_0 := blk_frozen BK192.out 0; have hfz19_1 := blk_frozen BK192.out 1; have hfz19_2 := blk_frozen BK192.out 2; have hfz19_3 := blk_frozen BK192.out 3; have hcz20_0 : w17.cell? ⟨gb193, 0, none⟩ = some (.int .i64 0) := (blk_cell BK193.out 0).trans rfl; have hcz20_1 : w17.cell? ⟨gb193, 1, none⟩ = some (.int .i64 0) := (blk_cell BK193.out 1).trans rfl; have hcz20_2 : w17.cell? ⟨gb193, 2, none⟩ = some (.int .i64 0) := (blk_cell BK193.out 2).trans rfl; have hcz20_3 : w17.cell? ⟨gb193, 3, none⟩ = some (.string (⟨#[]⟩ : ByteArray)) := (blk_cell BK193.out 3).trans rfl; have hfz20_0 := blk_frozen BK193.out 0; have hfz20_1 := blk_frozen BK193.out 1; have hfz20_2 := blk_frozen BK193.out 2; have hfz20_3 := blk_frozen BK193.out 3));refine bodyPost_ret (results_cell_row rfl _ _ gb193 35 #[.int .i64 a0_0, .int .i64 (wrap64 (a0_1 + 1)), .int .i64 0, .string (⟨#[]⟩ : ByteArray)] (0, 0) _ rfl (by refine sB ?_; refine blk_put (cs := #[.int .i64 a0_0, .int .i64 (wrap64 (a0_1 + 1)), .int .i64 0, .string (⟨#[]⟩ : ByteArray)]) ?_ 3 _ rfl; refine sB ?_; refine blk_put (cs := #[.int .i64 a0_0, .int .i64 (wrap64 (a0_1 + 1)), .int .i64 0, .string (⟨#[]⟩ : ByteArray)]) ?_ 2 _ rfl; refine sB ?_; refine blk_put (cs := #[.int .i64 a0_0, .int .i64 0, .int .i64 0, .string (⟨#[]⟩ : ByteArray)]) ?_ 1 _ rfl; refine sB ?_; refine blk_put (cs := #[.int .i64 0, .int .i64 0, .int .i64 0, .string (⟨#[]⟩ : ByteArray)]) ?_ 0 _ rfl; refine sB ?_; refine blk_far ?_ NB193_192.out _; refine sB ?_; refine blk_far ?_ NB193_192.out _; refine sB ?_; refine blk_far ?_ NB193_192.out _; refine sB ?_; exact BK193.out) Tryz.underlying35 rfl (by kernel_rfl)) rfl ?_;exact ⟨by first | rfl | (simp [errW_none, errW_some] <;> rfl) | (simp [*, errW_none, errW_some] <;> rfl), sL2 HB.out GE192.out GE193.out⟩
   ·rw [if_neg c15] at H;have c15b0 := decide_eq_false c15;clear c15;simp only [Option.some.injEq, Prod.mk.injEq] at H;obtain ⟨rfl, rfl, rfl, rfl⟩ := H;(go_enter Tryz.func45, Tryz.ntmps45);go_wp2_with (first | ((with_reducible refine gate_dst (N := 2) rfl ?_); refine box_event ?hg (N := 2) ?hd (cs := #[.int .i64 a0_0, .int .i64 a0_1, .int .i64 a0_2, .string a0_3]) (t := 35) ?hr ?_; (case hd => rfl); (case hg => rfl); (case hr => first | (go_simp; done) | (go_simp; rfl)); intro gb192 hg w21 hbox hb; have n0_ := Aside0.mk (below_step (sL HB.out) hb); have n1_ := Aside0.mk (hbox); have n2_ := Aside0.mk ((by rw [hg]; exact (below_size (sL HB.out)) : w.heap.size ≤ gb192)); have n3_ := Aside0.mk ((by rw [hg]; exact (below_size (sL HB.out)) : w.heap.size ≤ gb192)); clear HB; have HB := n0_; have BK192 := n1_; have GW192 := n2_; have GE192 := n3_; clear n0_ n1_ n2_ n3_; clear hb hbox hg) | ((with_reducible refine gate_dst (N := 4) rfl ?_); refine box_event ?hg (N := 4) ?hd (cs := #[.int .i64 0, .int .i64 0, .int .i64 0, .string (⟨#[]⟩ : ByteArray)]) (t := 35) ?hr ?_; (case hd => rfl); (case hg => rfl); (case hr => first | (go_simp; done) | (go_simp; rfl)); intro gb193 hg w22 hbox hb; have n0_ := Aside0.mk (blk_below (g := gb192) (o := .cells #[.int .i64 a0_0, .int .i64 a0_1, .int .i64 a0_2, .string a0_3] 35 (0, 0)) (sB BK192.out) hb); have n1_ := Aside0.mk (below_step (sL1 HB.out GE192.out) hb); have n2_ := Aside0.mk (hbox); have n3_ := Aside0.mk ((by rw [hg]; exact (below_size (sL1 HB.out GE192.out)) : w.heap.size ≤ gb193)); have n4_ := Aside0.mk ((by rw [hg]; exact (below_size (sL1 HB.out GE192.out)) : w.heap.size ≤ gb193)); have n5_ := Aside0.mk ((by rw [hg]; exact Nat.ne_of_lt (blk_lt (g := gb192) (o := .cells #[.int .i64 a0_0, .int .i64 a0_1, .int .i64 a0_2, .string a0_3] 35 (0, 0)) (sB BK192.out)) : gb192 ≠ gb193)); have n6_ := Aside0.mk ((by rw [hg]; exact Nat.ne_of_gt (blk_lt (g := gb192) (o := .cells #[.int .i64 a0_0, .int .i64 a0_1, .int .i64 a0_2, .string a0_3] 35 (0, 0)) (sB BK192.out)) : gb193 ≠ gb192)); clear BK192; clear HB; have BK192 := n0_; have HB := n1_; have BK193 := n2_; have GW193 := n3_; have GE193 := n4_; have NB192_193 := n5_; have NB193_192 := n6_; clear n0_ n1_ n2_ n3_ n4_ n5_ n6_; clear hb hbox hg; have hnb23 := NB192_193.out; have hnc23 := NB193_192.out; have hcz24_0 : w22.cell? ⟨gb192, 0, none⟩ = some (.int .i64 a0_0) := (blk_cell BK192.out 0).trans rfl; have hcz24_1 : w22.cell? ⟨gb192, 1, none⟩ = some (.int .i64 a0_1) := (blk_cell BK192.out 1).trans rfl; have hcz24_2 : w22.cell? ⟨gb192, 2, none⟩ = some (.int .i64 a0_2) := (blk_cell BK192.out 2).trans rfl; have hcz24_3 : w22.cell? ⟨gb192, 3, none⟩ = some (.string a0_3) := (blk_cell BK192.out 3).trans rfl; have hfz24_0 := blk_frozen BK192.out 0; have hfz24_1 := blk_frozen BK192.out 1; have hfz24_2 := blk_frozen BK192.out 2; have hfz24_3 := blk_frozen BK192.out 3; have hcz25_0 : w22.cell? ⟨gb193, 0, none⟩ = some (.int .i64 0) := (blk_cell BK193.out 0).trans rfl; have hcz25_1 : w22.cell? ⟨gb193, 1, none⟩ = some (.int .i64 0) := (blk_cell BK193.out 1).trans rfl; have hcz25_2 : w22.cell? ⟨gb193, 2, none⟩ = some (.int .i64 0) := (blk_cell BK193.out 2).trans rfl; have hcz25_3 : w22.cell? ⟨gb193, 3, none⟩ = some (.string (⟨#[]⟩ : ByteArray)) := (blk_cell BK193.out 3).trans rfl; have hfz25_0 := blk_frozen BK193.out 0; have hfz25_1 := blk_frozen BK193.out 1; have hfz25_2 := blk_frozen BK193.out 2; have hfz25_3 := blk_frozen BK193.out 3));refine bodyPost_ret (results_cell_row rfl _ _ gb193 35 #[.int .i64 a0_0, .int .i64 a0_1, .int .i64 (wrap64 (a0_2 + 1)), .string (⟨#[]⟩ : ByteArray)] (0, 0) _ rfl (by refine sB ?_; refine blk_put (cs := #[.int .i64 a0_0, .int .i64 a0_1, .int .i64 (wrap64 (a0_2 + 1)), .string (⟨#[]⟩ : ByteArray)]) ?_ 3 _ rfl; refine sB ?_; refine blk_put (cs := #[.int .i64 a0_0, .int .i64 a0_1, .int .i64 0, .string (⟨#[]⟩ : ByteArray)]) ?_ 2 _ rfl; refine sB ?_; refine blk_put (cs := #[.int .i64 a0_0, .int .i64 0, .int .i64 0, .string (⟨#[]⟩ : ByteArray)]) ?_ 1 _ rfl; refine sB ?_; refine blk_put (cs := #[.int .i64 0, .int .i64 0, .int .i64 0, .string (⟨#[]⟩ : ByteArray)]) ?_ 0 _ rfl; refine sB ?_; refine blk_far ?_ NB193_192.out _; refine sB ?_; refine blk_far ?_ NB193_192.out _; refine sB ?_; exact BK193.out) Tryz.underlying35 rfl (by kernel_rfl)) rfl ?_;exact ⟨by first | rfl | (simp [errW_none, errW_some] <;> rfl) | (simp [*, errW_none, errW_some] <;> rfl), sL2 HB.out GE192.out GE193.out⟩
end Go.Proofs.YtijooffpjfhidaaGreatDoor.G
end
section
namespace Go.Proofs.YtijooffpjfhidaaGreatDoor.G
open Go.RowKit Go.Proofs.YtijooffpjfhidaaGreatDoorW.PrintWords Go.Proofs.YtijooffpjfhidaaGreatDoorW.PrintLast Go.Proofs.YtijooffpjfhidaaGreatDoorW.PrintMore
attribute [local go_sem] Go.Proofs.YtijooffpjfhidaaGreatDoor.Aid.gtr_string max2_int min2_int max_two min_two max_three min_three max_four min_four
set_option linter.unusedVariables false
set_option linter.unusedSimpArgs false
def span_Parse.sg (s : ByteArray) : List (Int × ByteArray) → Int → ByteArray → Option (Int × ByteArray)
  | [], op, rest => some (op, rest)
  | x :: xs, op, rest => (strings_CutPrefix.f s x.2).bind fun c => if c.2 = true then (if rest = s then span_Parse.sg s xs x.1 c.1 else span_Parse.sg s xs op rest) else span_Parse.sg s xs op rest
def span_Parse.wide (s : ByteArray) (t : Bool) : Bool := t || decide (bt s 0 = 94)
def span_Parse.word (k : Nat) (s : ByteArray) : Option (List S45 × Bool) :=
  if s.toList.isEmpty = true then some ([], true) else if s = ⟨#[42]⟩ then some ([], true) else
  (strings_HasPrefix.f s ⟨#[126]⟩).bind fun t =>
    (span_Parse.sg s span_Print.signs (if span_Parse.wide s t = true then 5 else 1) (if span_Parse.wide s t = true then s.extract 1 s.size else s)).bind fun o => (version_Parse.f k o.2).bind fun v => if v.2.2.2.2 = false then some ([], false) else
      if span_Parse.wide s t = true then (span_above.f v.1 v.2.1 v.2.2.1 v.2.2.2.1 t).bind fun n => some ([⟨o.1, ⟨v.1, v.2.1, v.2.2.1, v.2.2.2.1⟩⟩, ⟨2, ⟨n.1, n.2.1, n.2.2.1, n.2.2.2⟩⟩], true)
      else some ([⟨o.1, ⟨v.1, v.2.1, v.2.2.1, v.2.2.2.1⟩⟩], true)
def span_Parse.read (k : Nat) : List ByteArray → List S45 → Option (List S45 × Bool)
  | [], acc => some (acc, true)
  | s :: ws, acc => if acc.length < 1000000 then (span_Parse.word k s).bind fun o => if o.2 = false then some ([], false) else span_Parse.read k ws (acc ++ o.1) else none
def span_Parse.go (k : Nat) : List ByteArray → List (List S45) → Option (List (List S45) × Bool)
  | [], all => (span_right.f k all).bind fun g => if g = true then some (all, true) else some ([], false)
  | p :: ps, all => if p.size ≤ 140737488355328 then (if all.length < 1000000 then (span_Parse.read k (Go.Proofs.YtijooffpjfhidaaGreatDoor.Seq.cutsL 32 p) []).bind fun o => if o.2 = false then some ([], false) else span_Parse.go k ps (all ++ [o.1]) else none) else none
def span_Parse.f (k : Nat) (a0 : ByteArray) : Option (List (List S45) × Bool) := if a0.size ≤ 4294967280 then span_Parse.go k (Go.Proofs.YtijooffpjfhidaaGreatDoor.Seq.cutsD a0) [] else none
section
open Lib Go.Proofs.YtijooffpjfhidaaGreatDoor.Rng Go.Proofs.YtijooffpjfhidaaGreatDoor.Seq Go.Proofs.YtijooffpjfhidaaGreatDoor.App
theorem span_Parse.fh {acc : List S45} {W w1 : World} {B base : Nat} {u v1 : Value} {o : Obj} (hb : Boxed W B 38 u) (hR : Kd.R k45 45 W base (fun _ => True) u acc)
    (hg : (W.alloc o).grownBy w1 u.ownBlock) (hbase : base ≤ W.heap.size) : Fh 45 B base W (w1.setCell ⟨B, 0, none⟩ v1) := by
  have h1 := hg.size
  rw [World.size_alloc] at h1
  have hown := (Kd.R_own hR)
  have hat : ∀ k, k < W.heap.size → k ≠ B → some k ≠ u.ownBlock → (w1.setCell ⟨B, 0, none⟩ v1).heap[k]? = W.heap[k]? := fun k hk hB hn =>
    (Below.heap_setCell w1 ⟨B, 0, none⟩ v1 k hB).trans ((hg.block k (by rw [World.size_alloc]; omega) hn).trans (Below.heap_alloc W o k hk))
  refine ⟨hg.os, hg.tape, hg.output, ?_, fun k hk hB hl => hat k hl hB (fun e => ?_), fun k o' hB ho hr => (hat k (Array.getElem?_eq_some_iff.1 ho).1 hB (fun e => ?_)).trans ho⟩
  · exact Nat.le_trans (by omega) (KeepsWalks.setCell w1 ⟨B, 0, none⟩ v1).size
  · have := Kd.R_base hR k e.symm; omega
  · obtain ⟨_, h2⟩ := hown
    obtain ⟨cells, hc⟩ := own_typed h2 k e.symm
    rw [hc] at ho; cases ho; simp [isRow] at hr
set_option maxRecDepth 100000 in
set_option maxHeartbeats 4000000 in
theorem span_Parse.hand (op x y z : Int) (s : ByteArray) (acc : List S45) (W : World) (B base : Nat) (u : Value) (hb : Boxed W B 38 u) (hR : Kd.R k45 45 W base (fun _ => True) u acc)
    (hB : B < base) (hbase : base ≤ W.heap.size) (hl : acc.length < 2000000) :
    Calls Tryz.prog 25 #[.int .i64 op, .agg #[.int .i64 x, .int .i64 y, .int .i64 z, .string s], .pointer (some ⟨B, 0, none⟩)] W fun e w' => (∃ q, e = .returned q) ∧
      (∃ u', Boxed w' B 38 u' ∧ Kd.R k45 45 w' base (fun _ => True) u' (acc ++ [⟨op, ⟨x, y, z, s⟩⟩])) ∧ Fh 45 B base W w' := by
  obtain ⟨A, c, rfl⟩ := Kd.R_slice hR
  have hc := hb.cell
  have hf := hb.frozen
  have hlt := hb.lt
  have HB := Lib.hid hb
  have HR := Lib.hid hR
  have LM := Lib.hid hl
  have hu := Tryz.underlying35
  clear hb hR hl
  go_enter Tryz.func25, Tryz.ntmps25
  go_wp2_with (first | ((with_reducible refine gate_builtin (b := .append) (xs := #[.tmp 5, .tmp 9]) rfl ?_); at_builtin; refine Kd.R_append k45 (w0 := W) base ?a1 (.tmp 5) (.tmp 9) 38 45 (.agg #[(.int .i64 0), (.int .i64 0), (.int .i64 0), (.int .i64 0), (.string ⟨#[]⟩)]) 48 ?a2 ?a3 ?a4 ?a5 ?a6 ?a7 (.slice A acc.length c) acc ⟨op, ⟨x, y, z, s⟩⟩ [.int .i64 op, .int .i64 x, .int .i64 y, .int .i64 z, .string s] (fun _ => True) (fun _ => False) ?aY ?aX ?aP ?aK ?aF ?aO ?aB ?aS ?aL ?_; (case a1 => rfl); (case a2 => rfl); (case a3 => exact Tryz.underlying38); (case a4 => exact info45); (case a5 => rfl); (case a6 => decide); (case a7 => decide); (case aK => exact fun _ hk => hk.elim); (case aY => rfl); (case aX => first | rfl | (rw [World.size_alloc]; rfl)); (case aP => exact k45_mkM _ _ _ _); (case aB => exact (Below.refl _ W).alloc hbase _); (case aF => exact (fun _ _ => trivial)); (case aO => exact Kd.R_alloc HR.out _); (case aS => rw [World.size_alloc]; omega); (case aL => have := LM.out; omega); intro v1 w1 ho hb1 hg hat; have hne : some B ≠ (Value.slice A acc.length c).ownBlock := Kd.R_ne HR.out HB.out (by decide); have hbw := (HB.out.alloc (Obj.cells #[.int .i64 x, .int .i64 y, .int .i64 z, .string s] 35)).kept hg hne; have HW := Lib.hid hbw; have hc1 := hbw.cell; have hf1 := hbw.frozen; obtain ⟨A1, c1, rfl⟩ := Kd.R_slice ho; have HO := Lib.hid ho; have HG := Lib.hid hg; have HNE := Lib.hid hne; clear ho hb1 hg hat hne hbw))
  go_end0
  have hO := HO.out
  rw [List.length_append, List.length_singleton] at hO
  refine ⟨⟨_, rfl⟩, ⟨_, HW.out.set _, Kd.R_set hO HW.out (by decide) 0 _⟩, span_Parse.fh HB.out HR.out HG.out hbase⟩
theorem span_Parse.seqW2 (s sep : ByteArray) (w : World) (o1 o2 : Obj) (N : Nat) (hN : w.heap.size = N) (W0 : World) (h : seqW s sep ((w.alloc o1).alloc o2) = W0) :
    W0.heap.size = N + 5 ∧ W0.heap[N]? = some o1 ∧ W0.heap[N + 1]? = some o2 ∧ Boxed W0 (N + 2) 9 (.string s) ∧ Boxed W0 (N + 2 + 1) 9 (.string sep) ∧ Boxed W0 (N + 2 + 2) 3 (.int .i64 0) ∧ Below N w W0 := by
  subst h
  unfold seqW Boxed
  simp only [alloc_at, World.size_alloc, hN]
  refine ⟨trivial, ?_, ?_, ?_, ?_, ?_, ?_⟩
  · rw [if_neg (by omega), if_neg (by omega), if_neg (by omega), if_neg (by omega), if_pos trivial]
  · rw [if_neg (by omega), if_neg (by omega), if_neg (by omega), if_pos trivial]
  · rw [if_neg (by omega), if_neg (by omega), if_pos trivial]
  · rw [if_neg (by omega), if_pos trivial]
  · rw [if_pos trivial]
  · subst hN
    exact (((((Below.refl _ w).alloc (Nat.le_refl _) _).alloc (by simp) _).alloc (by simp; omega) _).alloc (by simp; omega) _).alloc (by simp; omega) _
theorem span_Parse.same {k : Nat} {bs acc r : List S45} {okw g : Bool} {ws : List ByteArray} {A B C : Prop} (h : (some ([], true) : Option (List S45 × Bool)) = some (bs, okw)) (h2 : (if okw = false then some ([], false) else span_Parse.read k ws (acc ++ bs)) = some (r, g))
    (h3 : A ∧ B ∧ (span_Parse.read k ws acc = some (r, g) → C)) : A ∧ B ∧ C := by
  obtain ⟨rfl, rfl⟩ := Prod.mk.inj (Option.some.inj h)
  rw [if_neg (by decide), List.append_nil] at h2
  exact ⟨h3.1, h3.2.1, h3.2.2 h2⟩
attribute [local go_sem] Oper.semAt_some span_Print.idx0 span_Print.idx1 span_Print.idx2 span_Print.idx3 span_Print.idx4
theorem span_Parse.after {B N : Nat} {w W X w8 W0 : World} {hv : Value} {cs : Array Value} (hBN : B < w.heap.size) (hN : w.heap.size = N) (hs0 : W0.heap.size = N + 5)
    (hx : Boxed (X.alloc (.cells cs 35)) N 52 hv ∧ Boxed (X.alloc (.cells cs 35)) (N + 1) 4 (.bool false) ∧ Fr B w (X.alloc (.cells cs 35)) ∧ KeepsFrom W0.heap.size W (X.alloc (.cells cs 35)) ∧ ((X.alloc (.cells cs 35)).heap[N + 2]? = W.heap[N + 2]? ∧ (X.alloc (.cells cs 35)).heap[N + 2 + 1]? = W.heap[N + 2 + 1]? ∧ (X.alloc (.cells cs 35)).heap[N + 2 + 2]? = W.heap[N + 2 + 2]?) ∧ W.heap.size ≤ (X.alloc (.cells cs 35)).heap.size)
    (hW : N + 6 ≤ W.heap.size) (hX : W.heap.size ≤ X.heap.size)
    (h : Fh 45 B (N + 5) (X.alloc (.cells cs 35)) w8) :
    Boxed w8 N 52 hv ∧ Boxed w8 (N + 1) 4 (.bool false) ∧ Fr B w w8 ∧ KeepsFrom W0.heap.size W w8 ∧ (w8.heap[N + 2]? = W.heap[N + 2]? ∧ w8.heap[N + 2 + 1]? = W.heap[N + 2 + 1]? ∧ w8.heap[N + 2 + 2]? = W.heap[N + 2 + 2]?) ∧ N + 6 ≤ w8.heap.size ∧ w8.heap[X.heap.size]? = some (.cells cs 35 (0, 0)) := by
  obtain ⟨x3, x4, x5, x6, x7, x8⟩ := hx
  refine ⟨h.boxed x3 (by omega) (by decide), h.boxed x4 (by omega) (by decide), Fh.fr x5 h (by omega), x6.trans (h.keeps (by omega)), ⟨(h.low _ (by omega) (by omega) (by omega)).trans x7.1, (h.low _ (by omega) (by omega) (by omega)).trans x7.2.1, (h.low _ (by omega) (by omega) (by omega)).trans x7.2.2⟩, Nat.le_trans (by omega) h.size, h.same _ _ (by omega) (World.alloc_heap_new X _) rfl⟩
theorem span_Parse.after2 {B N : Nat} {w W w8 w9 w10 W0 : World} {hv : Value} {P : Prop} (hBN : B < w.heap.size) (hN : w.heap.size = N) (hs0 : W0.heap.size = N + 5)
    (hx : Boxed w8 N 52 hv ∧ Boxed w8 (N + 1) 4 (.bool false) ∧ Fr B w w8 ∧ KeepsFrom W0.heap.size W w8 ∧ (w8.heap[N + 2]? = W.heap[N + 2]? ∧ w8.heap[N + 2 + 1]? = W.heap[N + 2 + 1]? ∧ w8.heap[N + 2 + 2]? = W.heap[N + 2 + 2]?) ∧ N + 6 ≤ w8.heap.size ∧ P)
    (hb : Below w8.heap.size w8 w9) (h : Fh 45 B (N + 5) w9 w10) :
    Boxed w10 N 52 hv ∧ Boxed w10 (N + 1) 4 (.bool false) ∧ Fr B w w10 ∧ KeepsFrom W0.heap.size W w10 ∧ (w10.heap[N + 2]? = W.heap[N + 2]? ∧ w10.heap[N + 2 + 1]? = W.heap[N + 2 + 1]? ∧ w10.heap[N + 2 + 2]? = W.heap[N + 2 + 2]?) := by
  obtain ⟨x3, x4, x5, x6, x7, x8, _⟩ := hx
  have hz := hb.size
  have hk : KeepsFrom W0.heap.size w8 w9 := ⟨hb.size, fun k o _ hk _ => (hb.block k (Array.getElem?_eq_some_iff.1 hk).1).trans hk⟩
  have hat : ∀ k, k < N + 5 → k ≠ B → w10.heap[k]? = w8.heap[k]? := fun k h1 h2 => (h.low _ h1 h2 (by omega)).trans (hb.block k (by omega))
  exact ⟨h.boxed (boxed_same (hb.block _ (by omega)) x3) (by omega) (by decide), h.boxed (boxed_same (hb.block _ (by omega)) x4) (by omega) (by decide), Fh.fr (x5.step hb x5.size) h (by omega), x6.trans (hk.trans (h.keeps (by omega))), ⟨(hat _ (by omega) (by omega)).trans x7.1, (hat _ (by omega) (by omega)).trans x7.2.1, (hat _ (by omega) (by omega)).trans x7.2.2⟩⟩
theorem span_Parse.fin {k : Nat} {bs bs' acc acc' r : List S45} {g : Bool} {ws : List ByteArray} {C : Prop} (h : bs' = bs) (h2 : (if true = false then some ([], false) else span_Parse.read k ws (acc ++ bs)) = some (r, g))
    (he : acc ++ bs' = acc') (h3 : span_Parse.read k ws acc' = some (r, g) → C) : C := by
  subst h
  rw [if_neg (by decide), he] at h2
  exact h3 h2
theorem span_Parse.nth (n : Nat) (hn : n < 5) : ∃ y1 y2, span_Print.signs.drop n = (y1, y2) :: span_Print.signs.drop (n + 1) ∧ ∀ w, (Instr.index 58 (.agg #[.int .i64 3, .string ⟨#[60, 61]⟩, .int .i64 5, .string ⟨#[62, 61]⟩, .int .i64 2, .string ⟨#[60]⟩, .int .i64 4, .string ⟨#[62]⟩, .int .i64 1, .string ⟨#[61]⟩]) (.int .i64 (n : Nat))).run Tryz.prog w = .ok (.agg #[.int .i64 y1, .string y2]) w := by
  obtain rfl | rfl | rfl | rfl | rfl : n = 0 ∨ n = 1 ∨ n = 2 ∨ n = 3 ∨ n = 4 := by omega
  · exact ⟨_, _, rfl, span_Print.idx0⟩
  · exact ⟨_, _, rfl, span_Print.idx1⟩
  · exact ⟨_, _, rfl, span_Print.idx2⟩
  · exact ⟨_, _, rfl, span_Print.idx3⟩
  · exact ⟨_, _, rfl, span_Print.idx4⟩
set_option maxRecDepth 100000 in
set_option maxHeartbeats 8000000 in
theorem span_Parse.read_calls (k : Nat) (s : ByteArray) (r : List S45) (g : Bool) (w w0 : World) (B : Nat) (h : span_Parse.read k (cutsL 32 s) [] = some (r, g)) (hs : s.size ≤ 140737488355328) (hb : Boxed w B 38 (.slice none 0 0))
    (hw0 : Below w0.heap.size w0 w) (h0 : w0.heap.size ≤ B) (hLD : LD w0) :
    Calls Tryz.prog 24 #[.string s, .func (.func 25) #[] #[.pointer (some ⟨B, 0, none⟩)]] w fun e w' => e = .returned (.bool g) ∧ (∃ u, Boxed w' B 38 u ∧ (g = true → Kd.R k45 45 w' w.heap.size (fun _ => True) u r)) ∧ Fr B w w' := by
  have hF : ∀ k, Fence.wide.fn k := fun _ => trivial
  have hD : Fence.wide.depth.isSome = false := rfl
  have hu := Tryz.underlying35
  refine (callsIn_wide (n := 6)).1 ?_
  refine callsIn_of_wp_marks Tryz.func24 rfl trivial ?_ rfl
  simp only [Tryz.ntmps24, List.size_toArray, List.length_cons, List.length_nil, Nat.reduceAdd, Nat.reduceSub, Array.replicate_succ, Array.replicate_zero, List.push_toArray, List.append_toArray, List.nil_append, List.cons_append]
  have HB := Lib.hid hb
  have H := Lib.hid h
  have HW0 := Lib.hid hw0
  have HL := Lib.hid hLD
  have hBN := hb.lt
  clear hb h hw0 hLD
  gi_wp2_with (gi_at_call 23; refine (callsIn_wide.2 (callsIn_wide.1 (seq_calls _ _ _))).mono ?_; rintro e w' ⟨rfl, rfl⟩)
  obtain ⟨L, hL⟩ : ∃ L, cutsL 32 s = L := ⟨_, rfl⟩
  obtain ⟨N, hN⟩ : ∃ N, w.heap.size = N := ⟨_, rfl⟩
  obtain ⟨W0, hW0⟩ : ∃ W0, seqW s ⟨#[32]⟩ ((w.alloc (.cells #[.func (.func 25) #[] #[.pointer (some ⟨B, 0, none⟩)]] 52)).alloc (.cells #[.bool false] 4)) = W0 := ⟨_, rfl⟩
  obtain ⟨hs0, b0, b1, b2, b3, b4, hB0⟩ := span_Parse.seqW2 _ _ w _ _ N hN W0 hW0
  have hN' : N ≤ w.heap.size := by omega
  rw [hW0, hN]
  clear hW0
  refine wpIn_iter (gf := 67) (lb := #[.pointer (some ⟨N + 1 + 1 + 1, 0, none⟩), .pointer (some ⟨N + 1 + 1, 0, none⟩), .pointer (some ⟨N + 1 + 1 + 2, 0, none⟩)]) rfl (enters_of Tryz.func67 (by kernel_rfl) rfl)
    (Bs := fun r => r = N + 2) (Kp := fun X Y => Y.heap[N + 2]? = X.heap[N + 2]? ∧ Y.heap[N + 2 + 1]? = X.heap[N + 2 + 1]? ∧ Y.heap[N + 2 + 2]? = X.heap[N + 2 + 2]?) (xs := L.map encS)
    (fun W hW => by rw [← hL]; exact seq1_iter s 32 (N + 2) _ W hs (boxed_same (hW.block _ (by omega)) b2) (boxed_same (hW.block _ (by omega)) b3) (boxed_same (hW.block _ (by omega)) b4) (fun _ _ h => h))
    (fun r h => by omega) (fun h k => ⟨k.1.trans h.1, k.2.1.trans h.2.1, k.2.2.trans h.2.2⟩)
    (fun W l o o' hl ho _ => ⟨World.putObj_heap_other (by omega), World.putObj_heap_other (by omega), World.putObj_heap_other (by omega)⟩)
    (fun x hx => by obtain ⟨s, _, rfl⟩ := List.mem_map.1 hx; rfl)
    (fun i W => (∃ u acc, Boxed W B 38 u ∧ Kd.R k45 45 W (N + 5) (fun _ => True) u acc ∧ Hid (span_Parse.read k (L.drop i) acc = some (r, g))) ∧ Boxed W N 52 (.func (.func 25) #[] #[.pointer (some ⟨B, 0, none⟩)]) ∧ Boxed W (N + 1) 4 (.bool false) ∧ Fr B w W)
    (fun c W => c = .ret ∧ (∃ u, Boxed W B 38 u) ∧ Boxed W (N + 1) 4 (.bool false) ∧ Hid (g = false) ∧ Fr B w W)
    ((OwnC.ex fun u => OwnC.ex fun acc => (ownC_boxed (by omega)).and ((ownC_R (by intro r hr; omega)).and (ownC_pure _))).and ((ownC_boxed (by omega)).and ((ownC_boxed (by omega)).and (ownC_fr (by omega) (by intro r hr; omega)))))
    (fun c => (ownC_pure _).and ((OwnC.ex fun u => ownC_boxed (by omega)).and ((ownC_boxed (by omega)).and ((ownC_pure _).and (ownC_fr (by omega) (by intro r hr; omega))))))
    ⟨⟨_, [], boxed_same (hB0.block _ (by omega)) HB.out, Kd.R_nil _ _ _ _ _, Lib.hid (by rw [← hL]; exact H.out)⟩, b0, b1, Fr.of_below (hN.symm ▸ hB0)⟩
    (fun i a' _ => ∃ x, L[i]? = some x ∧ a' = { tmps := #[.string s, .func (.func 25) #[] #[.pointer (some ⟨B, 0, none⟩)], undef, .pointer (some ⟨N, 0, none⟩), .pointer (some ⟨N + 1, 0, none⟩), .string x, undef, undef, undef, undef, undef, undef, undef, undef, undef, undef, .string s, .func (.func 67) #[] #[.pointer (some ⟨N + 1 + 1 + 1, 0, none⟩), .pointer (some ⟨N + 1 + 1, 0, none⟩), .pointer (some ⟨N + 1 + 1 + 2, 0, none⟩)], .string x, undef, undef, undef, undef, undef, undef, undef, undef, undef, undef, undef, undef, undef, undef, undef, undef, undef, undef, undef, undef, undef, undef, undef, undef, undef, undef, undef, undef, undef, undef, undef, undef, undef, undef, undef, undef, undef, undef, undef, undef, undef, undef, undef, undef, undef, undef, undef, undef, undef, undef, undef, undef, undef, undef, undef, undef], defers := [] })
    (fun i a' s W W' row hs hg hr => hs) ?assign ?body ?done ?stop
  case assign =>
    intro l i x W K hx _ hK
    rw [List.getElem?_map] at hx
    obtain ⟨x0, hs, rfl⟩ := Option.map_eq_some_iff.1 hx
    unfold encS
    gi_wp2
    refine hK _ _ (KeepsFrom.refl _ _) ⟨rfl, rfl, rfl⟩ (by assumption) ⟨x0, hs, rfl⟩
  case body =>
    rintro l i x a' W hl ⟨rr, hrr⟩ hx ⟨⟨u, acc, hu1, hR, HG⟩, hbN, hb1, hFr⟩ ⟨x0, hx0, rfl⟩
    have hWs : N + 6 ≤ W.heap.size := by have := (Array.getElem?_eq_some_iff.1 hrr).1; omega
    have hdrop : L.drop i = x0 :: L.drop (i + 1) := by
      rw [List.drop_eq_getElem_cons (List.getElem?_eq_some_iff.1 hx0).1]
      rw [(List.getElem?_eq_some_iff.1 hx0).2]
    have hg := HG.out
    rw [hdrop] at hg
    simp only [span_Parse.read] at hg
    split at hg
    case isFalse => cases hg
    rename_i hacc
    obtain ⟨⟨bs, okw⟩, hw, hg2⟩ := Option.bind_eq_some_iff.1 hg
    have HA := Lib.hid hacc
    have HGO := Lib.hid hg2
    have HU := Lib.hid hu1
    have HR := Lib.hid hR
    have HFR := Lib.hid hFr
    have HN := Lib.hid hbN
    have H1 := Lib.hid hb1
    have hc0 := hbN.cell
    have hc1 := hb1.cell
    have hf1 := hb1.frozen
    clear hg hdrop hx HG hacc hg2 hu1 hR hFr hbN hb1 hrr
    have HX : Hid (∀ X, Below W.heap.size W X → Boxed X B 38 u ∧ Kd.R k45 45 X (N + 5) (fun _ => True) u acc ∧ Boxed X N 52 (.func (.func 25) #[] #[.pointer (some ⟨B, 0, none⟩)]) ∧ Boxed X (N + 1) 4 (.bool false) ∧ Fr B w X ∧ KeepsFrom W0.heap.size W X ∧ (X.heap[N + 2]? = W.heap[N + 2]? ∧ X.heap[N + 2 + 1]? = W.heap[N + 2 + 1]? ∧ X.heap[N + 2 + 2]? = W.heap[N + 2 + 2]?) ∧ W.heap.size ≤ X.heap.size) := Lib.hid (fun X hX =>
      ⟨boxed_same (hX.block _ HU.out.lt) HU.out, Kd.R_below HR.out hX, boxed_same (hX.block _ (by omega)) HN.out, boxed_same (hX.block _ (by omega)) H1.out, HFR.out.step hX HFR.out.size, ⟨hX.size, fun k o _ hk _ => (hX.block k (Array.getElem?_eq_some_iff.1 hk).1).trans hk⟩, ⟨hX.block _ (by omega), hX.block _ (by omega), hX.block _ (by omega)⟩, hX.size⟩)
    unfold span_Parse.word at hw
    by_cases he : x0.toList.isEmpty = true
    · rw [if_pos he] at hw
      have HW := Lib.hid hw
      clear hw
      gi_wp2
      exact span_Parse.same HW.out HGO.out ⟨KeepsFrom.refl _ _, ⟨rfl, rfl, rfl⟩, fun h => ⟨⟨u, HU.out, acc, HR.out, Lib.hid h⟩, HN.out, H1.out, HFR.out⟩⟩
    · rw [if_neg he] at hw
      have he' : x0.toList.isEmpty = false := by simpa using he
      clear he
      by_cases hst : x0 = ⟨#[42]⟩
      · rw [if_pos hst] at hw
        have HW := Lib.hid hw
        have hq : x0.toList = [42] := by rw [hst, ByteArray.toList_eq]
        clear hw hst he'
        have he' : (x0.toList == [42]) = true := by rw [hq]; rfl
        gi_wp2
        all_goals exact span_Parse.same HW.out HGO.out ⟨KeepsFrom.refl _ _, ⟨rfl, rfl, rfl⟩, fun h => ⟨⟨u, HU.out, acc, HR.out, Lib.hid h⟩, HN.out, H1.out, HFR.out⟩⟩
      · rw [if_neg hst] at hw
        have hq : (x0.toList == [42]) = false := by
          rw [beq_eq_false_iff_ne, ByteArray.toList_eq]
          exact fun e => hst (Go.Proofs.YtijooffpjfhidaaGreatDoor.Txt.ext e)
        have hq2 : ¬ x0.toList = [42] := by simpa using hq
        clear hst
        obtain ⟨t, ht, hw⟩ := Option.bind_eq_some_iff.1 hw
        have CT := Lib.hid (fun W => strings_HasPrefix.calls x0 ⟨#[126]⟩ t W ht)
        have hsz : 0 < x0.size := by
          rw [ByteArray.toList_eq] at he'
          cases hd : x0.data.toList with
          | nil => rw [hd] at he'; cases he'
          | cons c r => have : x0.data.toList.length = x0.size := Array.length_toList; rw [hd] at this; simp at this; omega
        obtain ⟨c, hc⟩ : ∃ c, x0[0]'hsz = c := ⟨_, rfl⟩
        have hbt : bt x0 0 = (c.toNat : Int) := by unfold bt; rw [dif_pos (by simpa using hsz), ← hc]; rfl
        have hsz1 : (1 : Int) ≤ x0.size := by omega
        have hc1' : ∀ n, (W.drewN n).cell? ⟨N + 1, 0, none⟩ = some (.bool false) := fun n => hc1
        obtain ⟨wd, hwd⟩ : ∃ wd, span_Parse.wide x0 t = wd := ⟨_, rfl⟩
        rw [hwd] at hw
        obtain ⟨⟨o1, o2⟩, ho, hw⟩ := Option.bind_eq_some_iff.1 hw
        have HO := Lib.hid ho
        have HW := Lib.hid hw
        have HWD := Lib.hid hwd
        have HBT := Lib.hid hbt
        clear hw ho hwd ht hbt
        gi_upto_region 6 with (first | (gi_at_call 42; refine (callsIn_wide.2 (CT.out _)).mono ?_; rintro e w' ⟨rfl, ⟨nd, rfl⟩⟩) | fail)
        gi_cut [8] from 27 (fun s8 wc => s8 = .bool wd ∧ wc = W.drewN nd)
        case first =>
          have HWE := HWD.out
          unfold span_Parse.wide at HWE
          rw [HBT.out] at HWE
          cases t with
          | true =>
            obtain rfl : true = wd := HWE
            gi_wp2; gi_meet; exact ⟨rfl, rfl⟩
          | false =>
            have h94 : ((c.toNat : Int) == 94) = wd := HWE
            clear HWE
            cases wd
            all_goals (gi_wp2; gi_meet; exact ⟨rfl, rfl⟩)
        case rest =>
          obtain ⟨rfl, rfl⟩ := hcut
          gi_upto_if 34 with fail
          gi_cut [6, 9] from 35 (fun s6 s9 wc => ∃ (op : Int) (rest : ByteArray) (nd : Nat), s6 = .int .i64 op ∧ s9 = .string rest ∧ Hid (span_Parse.sg x0 span_Print.signs op rest = some (o1, o2)) ∧ wc = W.drewN nd)
          case first =>
            cases wd with
            | true =>
              gi_wp2
              gi_region
              all_goals (gi_wp2; gi_meet; exact ⟨_, _, _, rfl, rfl, Lib.hid HO.out, rfl⟩)
            | false => gi_wp2; gi_meet; exact ⟨_, _, _, rfl, rfl, Lib.hid HO.out, rfl⟩
          case rest =>
            clear HO
            obtain ⟨op0, rest0, nd', rfl, rfl, HO, rfl⟩ := hcut
            have HLW : Hid (∀ n, LD (W.drewN n)) := Lib.hid (fun n => HL.out.below ((HW0.out.trans (HFR.out.below h0 HW0.out.size)).trans (pw_below_drewN (Below.refl _ _) n)))
            obtain ⟨g0, g1, g2, g3, g4, g5, g6, g7, g8, g9⟩ := span_Print.sig (HLW.out nd')
            gi_wp2
            gi_loopg [6, 9, 38] 5 (fun kq v6 v9 v38 W1 => ∃ (n : Nat) (op : Int) (rest : ByteArray), v38 = .int .i64 (n : Nat) ∧ v6 = .int .i64 op ∧ v9 = .string rest ∧ Hid (kq = 5 - n ∧ n ≤ 5) ∧ Hid (span_Parse.sg x0 (span_Print.signs.drop n) op rest = some (o1, o2)) ∧ Hid (Below W.heap.size W W1))
            case atStart => exact ⟨0, op0, rest0, rfl, rfl, rfl, Lib.hid ⟨rfl, Nat.zero_le _⟩, Lib.hid HO.out, Lib.hid (pw_below_drewN (Below.refl _ _) _)⟩
            case round =>
              clear g0 g1 g2 g3 g4 g5 g6 g7 g8 g9 HO
              obtain ⟨n, op, rest, rfl, rfl, rfl, Hn, Hs, HBV⟩ := hrel
              by_cases hn : n < 5
              · obtain ⟨y1, y2, hy, hidx⟩ := span_Parse.nth n hn
                have hg := Hs.out
                rw [hy] at hg
                simp only [span_Parse.sg] at hg
                obtain ⟨⟨cu, okc⟩, hcp, hg⟩ := Option.bind_eq_some_iff.1 hg
                have CC := Lib.hid (fun W => strings_CutPrefix.calls x0 y2 cu okc W hcp)
                have HG2 := Lib.hid hg
                have HY := Lib.hid hy
                have hnn : (n : Int) + 1 ≤ 5 := by omega
                clear hg hcp hy Hs
                cases okc with
                | false =>
                  gi_wp2_with (first | (gi_at_call 43; refine (callsIn_wide.2 (CC.out _)).mono ?_; rintro e w' ⟨rfl, ⟨nc, rfl⟩⟩) | fail)
                  gi_roundg (5 - (n + 1))
                  case measure => have := Hn.out.1; omega
                  case rel => exact ⟨n + 1, op, rest, by go_num, rfl, rfl, Lib.hid ⟨rfl, by omega⟩, Lib.hid (by simpa using HG2.out), Lib.hid (pw_below_drewN (HBV.out.alloc HBV.out.size _) _)⟩
                | true =>
                  by_cases hrx : rest = x0
                  · have hrq : (rest.toList == x0.toList) = true := by rw [hrx]; exact beq_self_eq_true _
                    have HRX := Lib.hid hrx
                    clear hrx
                    gi_wp2_with (first | (gi_at_call 43; refine (callsIn_wide.2 (CC.out _)).mono ?_; rintro e w' ⟨rfl, ⟨nc, rfl⟩⟩) | fail)
                    all_goals gi_roundg (5 - (n + 1))
                    case measure => have := Hn.out.1; omega
                    case rel => exact ⟨n + 1, y1, cu, by go_num, rfl, rfl, Lib.hid ⟨rfl, by omega⟩, Lib.hid (by have := HG2.out; rw [if_pos trivial, if_pos HRX.out] at this; exact this), Lib.hid (pw_below_drewN (HBV.out.alloc HBV.out.size _) _)⟩
                  · have hrq : (rest.toList == x0.toList) = false := by
                      rw [beq_eq_false_iff_ne, ByteArray.toList_eq, ByteArray.toList_eq]
                      exact fun e => hrx (Go.Proofs.YtijooffpjfhidaaGreatDoor.Txt.ext e)
                    have HRX := Lib.hid hrx
                    clear hrx
                    gi_wp2_with (first | (gi_at_call 43; refine (callsIn_wide.2 (CC.out _)).mono ?_; rintro e w' ⟨rfl, ⟨nc, rfl⟩⟩) | fail)
                    all_goals gi_roundg (5 - (n + 1))
                    case measure => have := Hn.out.1; omega
                    case rel => exact ⟨n + 1, op, rest, by go_num, rfl, rfl, Lib.hid ⟨rfl, by omega⟩, Lib.hid (by have := HG2.out; rw [if_pos trivial, if_neg HRX.out] at this; exact this), Lib.hid (pw_below_drewN (HBV.out.alloc HBV.out.size _) _)⟩
              · obtain rfl : n = 5 := by have := Hn.out.2; omega
                have hs5 : some (op, rest) = some (o1, o2) := Hs.out
                obtain ⟨rfl, rfl⟩ := Prod.mk.inj (Option.some.inj hs5)
                obtain ⟨⟨v0, v1, v2, v3, okv⟩, hv, hw⟩ := Option.bind_eq_some_iff.1 HW.out
                have CV := Lib.hid (fun W hl => version_Parse.calls k rest v0 v1 v2 v3 okv W hv hl)
                have HW3 := Lib.hid hw
                clear hs5 hv hw Hs HW
                cases okv with
                | false =>
                  gi_wp2_with (first | (gi_at_call 44; refine (callsIn_wide.2 (CV.out _ ?hl)).mono ?_; (case hl => exact (HLW.out 0).below HBV.out); rintro e w' ⟨rfl, hbe⟩; have HBE := Lib.hid (HBV.out.trans (hbe.mono HBV.out.size)); obtain ⟨_, _, q3, q4, _, _, _, qz⟩ := HX.out w' HBE.out; have hc0' := (q3.alloc (Obj.cells #[.int .i64 v0, .int .i64 v1, .int .i64 v2, .string v3] 35)).cell; have hc1' := (q4.alloc (Obj.cells #[.int .i64 v0, .int .i64 v1, .int .i64 v2, .string v3] 35)).cell; have hf1' := (q4.alloc (Obj.cells #[.int .i64 v0, .int .i64 v1, .int .i64 v2, .string v3] 35)).frozen; clear q3 q4 hbe) | fail)
                  obtain ⟨x1, _, _, x4, x5, x6, _, _⟩ := HX.out _ (HBE.out.alloc HBE.out.size (Obj.cells #[.int .i64 v0, .int .i64 v1, .int .i64 v2, .string v3] 35))
                  have hgf : g = false := by
                    have h3 := HW3.out
                    rw [if_pos trivial] at h3
                    obtain ⟨rfl, rfl⟩ := Prod.mk.inj (Option.some.inj h3)
                    have h4 := HGO.out
                    rw [if_pos rfl] at h4
                    exact (Prod.mk.inj (Option.some.inj h4)).2.symm
                  exact ⟨kf_set x6 _ _, rfl, ⟨u, x1.other (by omega) _⟩, x4.set _, Lib.hid hgf, x5.step (bl_set (Below.refl N _) _ _ _ (by omega)) (by omega)⟩
                | true =>
                  gi_upto_if 69 with (first | (gi_at_call 44; refine (callsIn_wide.2 (CV.out _ ?hl)).mono ?_; (case hl => exact (HLW.out 0).below HBV.out); rintro e w' ⟨rfl, hbe⟩; have HBE := Lib.hid (HBV.out.trans (hbe.mono HBV.out.size)); obtain ⟨_, _, q3, q4, _, _, _, qz⟩ := HX.out w' HBE.out; have hc0' := (q3.alloc (Obj.cells #[.int .i64 v0, .int .i64 v1, .int .i64 v2, .string v3] 35)).cell; have hc1' := (q4.alloc (Obj.cells #[.int .i64 v0, .int .i64 v1, .int .i64 v2, .string v3] 35)).cell; have hf1' := (q4.alloc (Obj.cells #[.int .i64 v0, .int .i64 v1, .int .i64 v2, .string v3] 35)).frozen; clear q3 q4 hbe) | (gi_at_call 25; ((have hx := HX.out (w'.alloc (Obj.cells #[.int .i64 v0, .int .i64 v1, .int .i64 v2, .string v3] 35)) (HBE.out.alloc HBE.out.size _)); refine (callsIn_wide.2 (span_Parse.hand op v0 v1 v2 v3 acc _ B (N + 5) u hx.1 hx.2.1 ?p1 ?p2 ?p3)).mono ?_; (case p1 => omega); (case p2 => rw [World.size_alloc]; omega); (case p3 => have := HA.out; omega); rintro e w8 ⟨⟨q, rfl⟩, ⟨u2, hb2, hr2⟩, hfh⟩; have HB2 := Lib.hid hb2; have HR2 := Lib.hid hr2; have HF2 := Lib.hid (span_Parse.after (w := w) (W0 := W0) (B := B) (N := N) hBN hN hs0 hx.2.2 hWs qz hfh); obtain ⟨q3, q4, _, _, _, qy, qv⟩ := HF2.out; have hc0'' := q3.cell; have hc1'' := q4.cell; have hf1'' := q4.frozen; have n0 := span_Holds.cells qv 0 _ rfl; have n1 := span_Holds.cells qv 1 _ rfl; have n2 := span_Holds.cells qv 2 _ rfl; have n3 := span_Holds.cells qv 3 _ rfl; clear hx hb2 hr2 hfh q3 q4 qv)) | fail)
                  have h3 := HW3.out
                  rw [if_neg (by simp)] at h3
                  clear HW3
                  cases wd with
                  | true =>
                    rw [if_pos rfl] at h3
                    obtain ⟨⟨z0, z1, z2, z3⟩, hz, h3⟩ := Option.bind_eq_some_iff.1 h3
                    obtain ⟨hbs, rfl⟩ := Prod.mk.inj (Option.some.inj h3)
                    have CA := Lib.hid (fun W => span_above.calls v0 v1 v2 v3 t z0 z1 z2 z3 W hz)
                    have HBS := Lib.hid hbs
                    clear h3 hz hbs
                    gi_wp2
                    gi_region_with (first | (gi_at_call 45; refine (callsIn_wide.2 (CA.out _)).mono ?_; rintro e w9 ⟨rfl, hbe9⟩; have hb9 := (show Below w8.heap.size w8 _ from (by repeat (first | exact Below.refl _ _ | apply pw_below_drewN | apply below_drew1))).trans hbe9; have HB9 := Lib.hid hb9; have hc9 := (boxed_same (hb9.block _ (by omega)) HF2.out.1).cell; clear hbe9 hb9) | (gi_at_call 25; refine (callsIn_wide.2 (span_Parse.hand 2 z0 z1 z2 z3 (acc ++ [⟨op, ⟨v0, v1, v2, v3⟩⟩]) _ B (N + 5) u2 (boxed_same (HB9.out.block _ HB2.out.lt) HB2.out) (Kd.R_below HR2.out HB9.out) ?p1 ?p2 ?p3)).mono ?_; (case p1 => omega); (case p2 => have := HB9.out.size; omega); (case p3 => have := HA.out; rw [List.length_append, List.length_singleton]; omega); rintro e w10 ⟨⟨q', rfl⟩, ⟨u3, hb3, hr3⟩, hfh3⟩; have HB3 := Lib.hid hb3; have HR3 := Lib.hid hr3; have HF3 := Lib.hid (span_Parse.after2 hBN hN hs0 HF2.out HB9.out hfh3); clear hb3 hr3 hfh3) | fail)
                    all_goals exact span_Parse.fin HBS.out HGO.out (by simp) (fun hgo => ⟨HF3.out.2.2.2.1, HF3.out.2.2.2.2, ⟨u3, _, HB3.out, HR3.out, Lib.hid hgo⟩, HF3.out.1, HF3.out.2.1, HF3.out.2.2.1⟩)
                  | false =>
                    rw [if_neg (by decide)] at h3
                    obtain ⟨hbs, rfl⟩ := Prod.mk.inj (Option.some.inj h3)
                    have HBS := Lib.hid hbs
                    clear h3 hbs
                    gi_wp2
                    have hF2 := HF2.out
                    exact span_Parse.fin HBS.out HGO.out rfl (fun hgo => ⟨hF2.2.2.2.1, hF2.2.2.2.2.1, ⟨u2, _, HB2.out, HR2.out, Lib.hid hgo⟩, hF2.1, hF2.2.1, hF2.2.2.1⟩)
  case done =>
    rintro D W hD' ⟨⟨u, acc, hu1, hR, HG⟩, hbN, hb1, hFr⟩ hK
    have hWs : N + 5 ≤ D := by omega
    have hDl := (Array.getElem?_eq_some_iff.1 hK).1
    have hg := HG.out
    rw [List.length_map, List.drop_length] at hg
    obtain ⟨rfl, rfl⟩ := Prod.mk.inj (Option.some.inj hg)
    have HU := Lib.hid hu1
    have HR := Lib.hid hR
    have HFR := Lib.hid hFr
    have H1 := Lib.hid hb1
    have hc1 := hb1.cell
    have hf1 := hb1.frozen
    clear hg HG hu1 hR hFr hbN hb1
    gi_wp2
    have hK' := (same_set (c := N + 1) (o := 0) (v := .bool true) (X := W) (W := W) (b := D) rfl (by omega)).trans hK
    refine ⟨by simp, .inl ⟨_, _, rfl, run_takeDeferred hK', ?_⟩⟩
    have p1 := (boxed_same (World.putObj_heap_other (o := .deferred none) (by omega : N + 1 ≠ D)) (H1.out.set (.bool true))).cell
    have e1 : ∀ b, b ≠ N + 1 → b ≠ D → ((W.setCell ⟨N + 1, 0, none⟩ (.bool true)).putObj D (.deferred none)).heap[b]? = W.heap[b]? := fun b h1 h2 => (World.putObj_heap_other h2).trans (same_set (X := W) (W := W) rfl h1)
    refine ⟨.bool true, by simp [results, Tryz.f24, go_sem, p1], rfl, ⟨u, boxed_same (e1 B (by omega) (by omega)) HU.out, ?_⟩, HFR.out.step (bl_putObj (bl_set (Below.refl N W) _ _ _ (by omega)) _ (by omega) (by simp; omega) hK') (by omega)⟩
    refine Kd.R_lower (base := N + 5) (Kd.R_mono (Kd.R_step (Kd.R_bound HR.out) (fun k hk _ => e1 k (by omega) (fun ek => ?_))) (fun _ _ => trivial)) (by omega)
    obtain ⟨_, _, _, q, _, cells, hq⟩ := hk
    rw [ek, hK] at hq; cases hq
  case stop =>
    rintro D c W hD' ⟨rfl, ⟨u, hu1⟩, hb1, HGF, hFr⟩ hK
    obtain rfl := HGF.out
    have hDl := (Array.getElem?_eq_some_iff.1 hK).1
    have HU := Lib.hid hu1
    have HFR := Lib.hid hFr
    have H1 := Lib.hid hb1
    clear hu1 hFr hb1
    gi_wp2
    refine ⟨by simp, .inl ⟨_, _, rfl, run_takeDeferred hK, ?_⟩⟩
    have p1 := (boxed_same (World.putObj_heap_other (o := .deferred none) (by omega : N + 1 ≠ D)) H1.out).cell
    exact ⟨.bool false, by simp [results, Tryz.f24, go_sem, p1], rfl, ⟨u, boxed_same (World.putObj_heap_other (by omega)) HU.out⟩, HFR.out.step (bl_putObj (Below.refl N W) _ (by omega) (by omega) hK) (by omega)⟩
end
end Go.Proofs.YtijooffpjfhidaaGreatDoor.G
end
section
namespace Go.Proofs.YtijooffpjfhidaaGreatDoor.G
open Go.RowKit Go.Proofs.YtijooffpjfhidaaGreatDoorW.PrintWords Go.Proofs.YtijooffpjfhidaaGreatDoorW.PrintLast Go.Proofs.YtijooffpjfhidaaGreatDoorW.PrintMore
attribute [local go_sem] Go.Proofs.YtijooffpjfhidaaGreatDoor.Aid.gtr_string max2_int min2_int max_two min_two max_three min_three max_four min_four
set_option linter.unusedVariables false
set_option linter.unusedSimpArgs false
section
open Lib Go.Proofs.YtijooffpjfhidaaGreatDoor.Rng Go.Proofs.YtijooffpjfhidaaGreatDoor.Seq Go.Proofs.YtijooffpjfhidaaGreatDoor.App
attribute [local go_sem] Oper.semAt_some
theorem span_Parse.fr_at {W w8 : World} {o : Obj} (h : Fr W.heap.size (W.alloc o) w8) (k : Nat) (hk : k < W.heap.size) : w8.heap[k]? = W.heap[k]? := (h.block k (by rw [World.size_alloc]; omega) (by omega)).trans (Below.heap_alloc W o k hk)
theorem span_Parse.fr_size {W w8 : World} {o : Obj} (h : Fr W.heap.size (W.alloc o) w8) : W.heap.size ≤ w8.heap.size := by have := h.size; rw [World.size_alloc] at this; omega
theorem span_Parse.fr_keeps {W w8 : World} {o : Obj} {B : Nat} (h : Fr W.heap.size (W.alloc o) w8) : KeepsFrom B W w8 := ⟨span_Parse.fr_size h, fun k o _ hk _ => (span_Parse.fr_at h k (Array.getElem?_eq_some_iff.1 hk).1).trans hk⟩
theorem span_Parse.fr_below {W w8 : World} {o : Obj} {n : Nat} (h : Fr W.heap.size (W.alloc o) w8) (hn : n ≤ W.heap.size) : Below n W w8 := ⟨h.os, h.tape, h.output, span_Parse.fr_size h, fun k hk => span_Parse.fr_at h k (by omega)⟩
theorem span_Parse.flat {W : World} {base : Nat} {u : Value} {bs : List S45} (h : Kd.R k45 45 W base (fun _ => True) u bs) : Kd.R k45 45 W base (fun k_ => some k_ = u.ownBlock) u bs :=
  Kd.R_flat (fun h => by obtain rfl := k45_openM h; exact k45_mkM _ _ _ _) h (fun k hk _ => hk.symm)
theorem span_Parse.step {N B0 : Nat} {w W w8 w1 : World} {o : Obj} {v v1 x y : Value} {all all' : List (List S45)} (hWs : N + 7 ≤ W.heap.size) (hB0 : N + 6 ≤ B0) (hgN : 3 < N)
    (HV : Boxed W (N + 2) 24 v) (HS : Kd.S (Kd.slice 45 k45) 38 W (N + 6) (fun _ => True) v all) (HN : Boxed W N 24 x) (H1 : Boxed W (N + 1) 4 y) (HB : Below N w W) (HFR : Fr W.heap.size (W.alloc o) w8) (hg : w8.grownBy w1 v.ownBlock)
    (ho : Kd.S (Kd.slice 45 k45) 38 w1 (N + 6) (fun _ => True) v1 all') :
    KeepsFrom B0 W (w1.setCell ⟨N + 2, 0, none⟩ v1) ∧ ((w1.setCell ⟨N + 2, 0, none⟩ v1).heap[N + 3]? = W.heap[N + 3]? ∧ (w1.setCell ⟨N + 2, 0, none⟩ v1).heap[N + 3 + 1]? = W.heap[N + 3 + 1]? ∧ (w1.setCell ⟨N + 2, 0, none⟩ v1).heap[N + 3 + 2]? = W.heap[N + 3 + 2]? ∧ (w1.setCell ⟨N + 2, 0, none⟩ v1).cell? ⟨3, 0, none⟩ = W.cell? ⟨3, 0, none⟩) ∧
      (Boxed (w1.setCell ⟨N + 2, 0, none⟩ v1) (N + 2) 24 v1 ∧ Kd.S (Kd.slice 45 k45) 38 (w1.setCell ⟨N + 2, 0, none⟩ v1) (N + 6) (fun _ => True) v1 all') ∧ Boxed (w1.setCell ⟨N + 2, 0, none⟩ v1) N 24 x ∧ Boxed (w1.setCell ⟨N + 2, 0, none⟩ v1) (N + 1) 4 y ∧ Below N w (w1.setCell ⟨N + 2, 0, none⟩ v1) := by
  have h8 := span_Parse.fr_size HFR
  have h1 := hg.size
  have hat : ∀ k, k < W.heap.size → some k ≠ v.ownBlock → k ≠ N + 2 → (w1.setCell ⟨N + 2, 0, none⟩ v1).heap[k]? = W.heap[k]? := fun k hk hn h2 =>
    (Below.heap_setCell w1 ⟨N + 2, 0, none⟩ v1 k h2).trans ((hg.block k (by omega) hn).trans (span_Parse.fr_at HFR k hk))
  have hlow : ∀ k, k < N + 6 → some k ≠ v.ownBlock := fun k hk e => by have := Kd.S_base HS k e.symm; omega
  have hs1 : W.heap.size ≤ (w1.setCell ⟨N + 2, 0, none⟩ v1).heap.size := Nat.le_trans (by omega) (KeepsWalks.setCell w1 ⟨N + 2, 0, none⟩ v1).size
  have hv1 : Boxed w1 (N + 2) 24 v := (boxed_same (span_Parse.fr_at HFR _ (by omega)) HV).kept hg (hlow _ (by omega))
  refine ⟨⟨hs1, fun k o' hk ho' hc => (hat k (Array.getElem?_eq_some_iff.1 ho').1 (fun e => ?_) (by omega)).trans ho'⟩, ⟨hat _ (by omega) (hlow _ (by omega)) (by omega), hat _ (by omega) (hlow _ (by omega)) (by omega), hat _ (by omega) (hlow _ (by omega)) (by omega), World.cell?_of_block (w := W) (hat _ (by show 3 < _; omega) (hlow _ (by show 3 < _; omega)) (by show 3 ≠ _; omega))⟩,
    ⟨hv1.set v1, Kd.S_set ho hv1 (by decide) 0 _⟩, boxed_same (hat _ (by omega) (hlow _ (by omega)) (by omega)) HN, boxed_same (hat _ (by omega) (hlow _ (by omega)) (by omega)) H1, ?_⟩
  · obtain ⟨cells, hc'⟩ := Kd.S_typed HS k e.symm
    rw [hc'] at ho'; cases ho'; cases hc
  · exact HB.trans ⟨hg.os.trans HFR.os, hg.tape.trans HFR.tape, hg.output.trans HFR.output, hs1, fun k hk => hat k (by omega) (hlow k (by omega)) (by omega)⟩
set_option maxRecDepth 100000 in
set_option maxHeartbeats 8000000 in
theorem span_Parse.calls (k : Nat) (a0 : ByteArray) (r1 : List (List (S45))) (r2 : Bool) (w : World) (h : span_Parse.f k a0 = some (r1, r2)) (hLD : LD w) :
    Calls Tryz.prog 12 #[.string a0] w fun e w' => ∃ v0_ : Value, e = .returned (.tuple #[.agg #[v0_], .bool r2]) ∧ Kd.S (Kd.slice 45 k45) 38 w' w.heap.size (fun _ => True) v0_ r1 ∧ Below w.heap.size w w' := by
  unfold span_Parse.f at h
  split at h
  case isFalse => cases h
  rename_i hsz
  have hF : ∀ k, Fence.wide.fn k := fun _ => trivial
  have hD : Fence.wide.depth.isSome = false := rfl
  have hu := Tryz.underlying24
  obtain ⟨m, hm⟩ := hLD.mx
  have hgN : 3 < w.heap.size := cell?_lt hm
  refine (callsIn_wide (n := 6)).1 ?_
  refine callsIn_of_wp_marks Tryz.func12 rfl trivial ?_ rfl
  simp only [Tryz.ntmps12, List.size_toArray, List.length_cons, List.length_nil, Nat.reduceAdd, Nat.reduceSub, Array.replicate_succ, Array.replicate_zero, List.push_toArray, List.append_toArray, List.nil_append, List.cons_append]
  have H := Lib.hid h
  have HL := Lib.hid hLD
  have HM := Lib.hid hm
  clear h hLD hm
  gi_wp2_with (gi_at_call 23; refine (callsIn_wide.2 (callsIn_wide.1 (seq_calls _ _ _))).mono ?_; rintro e w' ⟨rfl, rfl⟩)
  obtain ⟨L, hL⟩ : ∃ L, cutsD a0 = L := ⟨_, rfl⟩
  obtain ⟨N, hN⟩ : ∃ N, w.heap.size = N := ⟨_, rfl⟩
  obtain ⟨W0, hW0⟩ : ∃ W0, seqW a0 ⟨#[124, 124]⟩ (((w.alloc (.cells #[.slice none 0 0] 24)).alloc (.cells #[.bool false] 4)).alloc (.cells #[.slice none 0 0] 24)) = W0 := ⟨_, rfl⟩
  obtain ⟨hs0, b0, b1, b2, b3, b4, b5, hB0⟩ := seqW_facts _ _ w _ _ _ N hN W0 hW0
  have hN' : N ≤ w.heap.size := by omega
  rw [hW0, hN]
  clear hW0
  have hKm : ∀ (X Y : World), Below N X Y → Y.cell? ⟨3, 0, none⟩ = X.cell? ⟨3, 0, none⟩ := fun X Y hb => hb.cell (p := ⟨3, 0, none⟩) (by show 3 < N; omega)
  have HKM := Lib.hid hKm
  clear hKm
  refine wpIn_iter (gf := 67) (lb := #[.pointer (some ⟨N + 1 + 1 + 1 + 1, 0, none⟩), .pointer (some ⟨N + 1 + 1 + 1, 0, none⟩), .pointer (some ⟨N + 1 + 1 + 1 + 2, 0, none⟩)]) rfl (enters_of Tryz.func67 (by kernel_rfl) rfl)
    (Bs := fun r => r = N + 3) (Kp := fun X Y => Y.heap[N + 3]? = X.heap[N + 3]? ∧ Y.heap[N + 3 + 1]? = X.heap[N + 3 + 1]? ∧ Y.heap[N + 3 + 2]? = X.heap[N + 3 + 2]? ∧ Y.cell? ⟨3, 0, none⟩ = X.cell? ⟨3, 0, none⟩) (xs := L.map encS)
    (fun W hW => by rw [← hL]; exact seq2_iter a0 m (N + 3) _ W hsz (boxed_same (hW.block _ (by omega)) b3) (boxed_same (hW.block _ (by omega)) b4) (boxed_same (hW.block _ (by omega)) b5) ((HKM.out _ _ (hW.mono (by omega))).trans ((HKM.out _ _ hB0).trans HM.out)) (by omega) (fun _ _ h => h))
    (fun r h => by omega) (fun h k => ⟨k.1.trans h.1, k.2.1.trans h.2.1, k.2.2.1.trans h.2.2.1, k.2.2.2.trans h.2.2.2⟩)
    (fun W l o o' hl ho _ => ⟨World.putObj_heap_other (by omega), World.putObj_heap_other (by omega), World.putObj_heap_other (by omega), World.cell?_of_block (w := W) (World.putObj_heap_other (by show 3 ≠ l; omega))⟩)
    (fun x hx => by obtain ⟨s, _, rfl⟩ := List.mem_map.1 hx; rfl)
    (fun i W => (∃ v all, Boxed W (N + 2) 24 v ∧ Kd.S (Kd.slice 45 k45) 38 W (N + 6) (fun _ => True) v all ∧ Hid (span_Parse.go k (L.drop i) all = some (r1, r2))) ∧ Boxed W N 24 (.slice none 0 0) ∧ Boxed W (N + 1) 4 (.bool false) ∧ Below N w W)
    (fun c W => c = .ret ∧ Boxed W N 24 (.slice none 0 0) ∧ Boxed W (N + 1) 4 (.bool false) ∧ Hid (r1 = [] ∧ r2 = false) ∧ Below N w W)
    ((OwnC.ex fun v => OwnC.ex fun all => (ownC_boxed (by omega)).and ((ownC_S (by intro r hr; omega)).and (ownC_pure _))).and ((ownC_boxed (by omega)).and ((ownC_boxed (by omega)).and (ownC_below hN' (by omega) (by intro r hr; omega)))))
    (fun c => (ownC_pure _).and ((ownC_boxed (by omega)).and ((ownC_boxed (by omega)).and ((ownC_pure _).and (ownC_below hN' (by omega) (by intro r hr; omega))))))
    ⟨⟨_, [], b2, Kd.S_nil _ _ _ _ _, Lib.hid (by rw [← hL]; exact H.out)⟩, b0, b1, hB0⟩
    (fun i a' _ => ∃ x, L[i]? = some x ∧ a' = { tmps := #[.string a0, undef, .pointer (some ⟨N, 0, none⟩), .pointer (some ⟨N + 1, 0, none⟩), .pointer (some ⟨N + 1 + 1, 0, none⟩), .string x, undef, .string a0, .func (.func 67) #[] #[.pointer (some ⟨N + 1 + 1 + 1 + 1, 0, none⟩), .pointer (some ⟨N + 1 + 1 + 1, 0, none⟩), .pointer (some ⟨N + 1 + 1 + 1 + 2, 0, none⟩)], .string x, undef, undef, undef, undef, undef, undef, undef, undef, undef, undef, undef, undef, undef, undef, undef, undef], defers := [] })
    (fun i a' s W W' row hs hg hr => hs) ?assign ?body ?done ?stop
  case assign =>
    intro l i x W K hx _ hK
    rw [List.getElem?_map] at hx
    obtain ⟨x0, hs, rfl⟩ := Option.map_eq_some_iff.1 hx
    unfold encS
    gi_wp2
    refine hK _ _ (KeepsFrom.refl _ _) ⟨rfl, rfl, rfl, rfl⟩ (by assumption) ⟨x0, hs, rfl⟩
  case body =>
    rintro l i x a' W hl ⟨rr, hrr⟩ hx ⟨⟨v, all, hv, hS, HG⟩, hbN, hb1, hBl⟩ ⟨x0, hx0, rfl⟩
    have hWs : N + 7 ≤ W.heap.size := by have := (Array.getElem?_eq_some_iff.1 hrr).1; omega
    have hdrop : L.drop i = x0 :: L.drop (i + 1) := by
      rw [List.drop_eq_getElem_cons (List.getElem?_eq_some_iff.1 hx0).1]
      rw [(List.getElem?_eq_some_iff.1 hx0).2]
    have hg := HG.out
    rw [hdrop] at hg
    simp only [span_Parse.go] at hg
    split at hg
    case isFalse => cases hg
    rename_i hxs
    split at hg
    case isFalse => cases hg
    rename_i hal
    obtain ⟨⟨bs, okr⟩, hr, hg2⟩ := Option.bind_eq_some_iff.1 hg
    have HGO := Lib.hid hg2
    have HA := Lib.hid hal
    have hS' := hS
    obtain ⟨A, c, rfl⟩ := Kd.S_slice hS'
    have CR := Lib.hid (span_Parse.read_calls k x0 bs okr (W.alloc (.cells #[.slice none 0 0] 38)) w W.heap.size hr hxs (Boxed.new W _ _) (hN.symm ▸ hBl.alloc (by omega) _) (by omega) HL.out)
    have HV := Lib.hid hv
    have HS := Lib.hid hS
    have HN := Lib.hid hbN
    have H1 := Lib.hid hb1
    have HB := Lib.hid hBl
    have hv2 := hv.cell
    clear hg hg2 hdrop hx HG hal hr hxs hv hS hS' hbN hb1 hBl hrr
    cases okr with
    | false =>
      gi_wp2_with (first | (gi_at_call 24; refine (callsIn_wide.2 CR.out).mono ?_; rintro e w8 ⟨rfl, ⟨u, hu8, _⟩, hfr⟩; have h8 := hfr.size; rw [World.size_alloc] at h8; have HFR := Lib.hid hfr; have hq0 := boxed_same (hfr.block N (by rw [World.size_alloc]; omega) (by omega)) (HN.out.alloc _); have hq1 := boxed_same (hfr.block (N + 1) (by rw [World.size_alloc]; omega) (by omega)) (H1.out.alloc _); have HQ0 := Lib.hid hq0; have HQ1 := Lib.hid hq1; have c0 := hq0.cell; have f0 := hq0.frozen; have c1 := hq1.cell; have f1 := hq1.frozen; clear hu8 hfr hq0 hq1) | fail)
      have hgf : r1 = [] ∧ r2 = false := by
        have h4 := HGO.out
        rw [if_pos trivial] at h4
        obtain ⟨rfl, rfl⟩ := Prod.mk.inj (Option.some.inj h4)
        exact ⟨rfl, rfl⟩
      exact ⟨kf_set (kf_set (span_Parse.fr_keeps HFR.out) _ _) _ _, rfl, (HQ0.out.set _).other (by omega) _, (HQ1.out.other (by omega) _).set _, Lib.hid hgf, bl_set (bl_set (HB.out.trans (span_Parse.fr_below HFR.out (by omega))) _ _ _ (by omega)) _ _ _ (by omega)⟩
    | true =>
      gi_wp2_with (first | (gi_at_call 24; refine (callsIn_wide.2 CR.out).mono ?_; rintro e w8 ⟨rfl, ⟨u, hu8, hr8⟩, hfr⟩; have h8 := hfr.size; rw [World.size_alloc] at h8; have hR8 := hr8 rfl; have hR8' := hR8; obtain ⟨Au, cu, rfl⟩ := Kd.R_slice hR8'; have HFR := Lib.hid hfr; have HR8 := Lib.hid hR8; have hq2 := boxed_same (hfr.block (N + 2) (by rw [World.size_alloc]; omega) (by omega)) (HV.out.alloc _); have HQ2 := Lib.hid hq2; have HU8 := Lib.hid hu8; have c2 := hq2.cell; have c3 := hu8.cell; clear hr8 hR8 hR8' hu8 hfr hq2) | (gi_at_builtin; refine S_append_in (Kd.slice 45 k45) (N + 6) ?a1 (.tmp 16) (.tmp 18) 22 38 (.slice none 0 0) 24 ?a2 ?a3 ?a4 ?a5 ?a6 ?a7 (.slice A all.length c) all bs [.slice Au bs.length cu] (fun _ => True) (fun k_ => some k_ = (Value.slice Au bs.length cu).ownBlock) ?aY ?aX ?aP ?aK ?aF ?aO ?aS ?aL ?_; (case a1 => rfl); (case a2 => rfl); (case a3 => exact Tryz.underlying22); (case a4 => exact info38); (case a5 => rfl); (case a6 => decide); (case a7 => decide); (case aY => rfl); (case aX => first | rfl | (rw [World.size_alloc]; rfl)); (case aP => exact ⟨_, rfl, Kd.R_lower (span_Parse.flat HR8.out) (by rw [World.size_alloc]; omega)⟩); (case aK => exact fun k_ hk => ⟨trivial, fun e => by have h1 := Kd.S_lt HS.out k_ e.symm; have h2 := Kd.R_base HR8.out k_ hk.symm; rw [World.size_alloc] at h2; omega⟩); (case aF => exact (fun _ _ => trivial)); (case aO => exact Kd.S_mono (Kd.S_step (Kd.S_bound HS.out) (fun k_ hk _ => span_Parse.fr_at HFR.out k_ hk.2.2.1)) (fun k_ hk => ⟨trivial, fun e => by have h1 := hk.2.2.1; have h2 := Kd.R_base HR8.out k_ e.symm; rw [World.size_alloc] at h2; omega⟩)); (case aS => omega); (case aL => have := HA.out; omega); intro v1 w1 ho hg hat; have hw1 := HQ2.out.kept hg (Kd.S_ne HS.out HV.out (by decide)); have ho' := ho; obtain ⟨A1, c1, rfl⟩ := Kd.S_slice ho'; have HO := Lib.hid ho; have HG1 := Lib.hid hg; have c4 := hw1.cell; have f4 := hw1.frozen; clear ho ho' hg hat hw1) | fail)
      have hO := HO.out
      rw [List.length_append, List.length_singleton] at hO
      obtain ⟨x1, x2, x3, x4, x5, x6⟩ := span_Parse.step (B0 := W0.heap.size) hWs (by omega) (by omega) HV.out HS.out HN.out H1.out HB.out HFR.out HG1.out hO
      have h4 := HGO.out
      rw [if_neg (by simp)] at h4
      exact ⟨x1, x2, ⟨_, _, x3.1, x3.2, Lib.hid h4⟩, x4, x5, x6⟩
  case done =>
    rintro D W hD' ⟨⟨v, all, hv, hS, HG⟩, hbN, hb1, hBl⟩ hK
    have hDl := (Array.getElem?_eq_some_iff.1 hK).1
    have hg := HG.out
    rw [List.length_map, List.drop_length] at hg
    obtain ⟨g, hr, hg2⟩ := Option.bind_eq_some_iff.1 hg
    obtain ⟨A, c, rfl, hc, hC⟩ := Kd.S_reads hS
    have CR := Lib.hid (span_right.calls k A c all g W hC hc hr (HL.out.below (hN.symm ▸ hBl)))
    have HV := Lib.hid hv
    have HS := Lib.hid hS
    have HN := Lib.hid hbN
    have H1 := Lib.hid hb1
    have HB := Lib.hid hBl
    have HG2 := Lib.hid hg2
    have hv2 := hv.cell
    clear hg hg2 HG hr hC hc hv hS hbN hb1 hBl
    have HX : Hid (∀ X, Below W.heap.size W X → ∀ y, X.heap[D]? = some (.deferred (some [])) ∧ ((X.setCell ⟨N, 0, none⟩ y).setCell ⟨N + 1, 0, none⟩ (.bool g)).heap[D]? = some (.deferred (some [])) ∧ Boxed (((X.setCell ⟨N, 0, none⟩ y).setCell ⟨N + 1, 0, none⟩ (.bool g)).putObj D (.deferred none)) N 24 y ∧ Boxed (((X.setCell ⟨N, 0, none⟩ y).setCell ⟨N + 1, 0, none⟩ (.bool g)).putObj D (.deferred none)) (N + 1) 4 (.bool g) ∧ Kd.S (Kd.slice 45 k45) 38 (((X.setCell ⟨N, 0, none⟩ y).setCell ⟨N + 1, 0, none⟩ (.bool g)).putObj D (.deferred none)) N (fun _ => True) (.slice A all.length c) all ∧ Below N w (((X.setCell ⟨N, 0, none⟩ y).setCell ⟨N + 1, 0, none⟩ (.bool g)).putObj D (.deferred none))) := Lib.hid (fun X hX y => by
      have hKX := (hX.block _ hDl).trans hK
      have hKY := (same_set (c := N + 1) (o := 0) (v := .bool g) (X := X.setCell ⟨N, 0, none⟩ y) (W := X.setCell ⟨N, 0, none⟩ y) (b := D) rfl (by omega)).trans ((same_set (c := N) (o := 0) (v := y) (X := X) (W := X) (b := D) rfl (by omega)).trans hKX)
      have e1 : ∀ b, b ≠ N → b ≠ N + 1 → b ≠ D → b < W.heap.size → (((X.setCell ⟨N, 0, none⟩ y).setCell ⟨N + 1, 0, none⟩ (.bool g)).putObj D (.deferred none)).heap[b]? = W.heap[b]? := fun b h1 h2 h3 h4 => (World.putObj_heap_other h3).trans ((same_set (X := X.setCell ⟨N, 0, none⟩ y) (W := X.setCell ⟨N, 0, none⟩ y) rfl h2).trans ((same_set (X := X) (W := X) rfl h1).trans (hX.block _ h4)))
      have hxN := boxed_same (hX.block N (by omega)) HN.out
      have hx1 := boxed_same (hX.block (N + 1) (by omega)) H1.out
      refine ⟨hKX, hKY, boxed_same (World.putObj_heap_other (by omega)) ((hxN.set y).other (by omega) _), boxed_same (World.putObj_heap_other (by omega)) ((hx1.other (by omega) _).set _), ?_, bl_putObj (bl_set (bl_set (HB.out.trans (hX.mono (by omega))) _ _ _ (by omega)) _ _ _ (by omega)) _ (by omega) (by have := hX.size; simp; omega) hKY⟩
      refine Kd.S_lower (base := N + 6) (Kd.S_mono (Kd.S_step (Kd.S_bound HS.out) (fun k hk hl => e1 k (by omega) (by omega) (fun ek => ?_) hl)) (fun _ _ => trivial)) (by omega)
      obtain ⟨_, _, _, q, _, cells, hq⟩ := hk
      rw [ek, hK] at hq; cases hq)
    cases g with
    | true =>
      gi_wp2_with (first | (gi_at_call 26; refine (callsIn_wide.2 CR.out).mono ?_; rintro e w8 ⟨rfl, hb8⟩; have HB8 := Lib.hid hb8; have hq0 := boxed_same (hb8.block N (by omega)) HN.out; have hq1 := boxed_same (hb8.block (N + 1) (by omega)) H1.out; have hq2 := boxed_same (hb8.block (N + 2) (by omega)) HV.out; have c0 := hq0.cell; have f0 := hq0.frozen; have c1 := hq1.cell; have f1 := hq1.frozen; have c2 := hq2.cell; clear hb8 hq0 hq1 hq2) | fail)
      obtain ⟨_, x2, x3, x4, x5, x6⟩ := HX.out w8 HB8.out (.slice A all.length c)
      refine ⟨by simp, .inl ⟨_, _, rfl, run_takeDeferred x2, ?_⟩⟩
      have p0 := x3.cell
      have p1 := x4.cell
      have h2 := HG2.out
      simp only [if_true] at h2
      obtain ⟨rfl, rfl⟩ := Prod.mk.inj (Option.some.inj h2)
      exact ⟨.tuple #[.agg #[.slice A all.length c], .bool true], by simp [results, Tryz.f12, go_sem, p0, p1], _, rfl, hN.symm ▸ x5, hN.symm ▸ x6⟩
    | false =>
      gi_wp2_with (first | (gi_at_call 26; refine (callsIn_wide.2 CR.out).mono ?_; rintro e w8 ⟨rfl, hb8⟩; have HB8 := Lib.hid hb8; have hq0 := boxed_same (hb8.block N (by omega)) HN.out; have hq1 := boxed_same (hb8.block (N + 1) (by omega)) H1.out; have hq2 := boxed_same (hb8.block (N + 2) (by omega)) HV.out; have c0 := hq0.cell; have f0 := hq0.frozen; have c1 := hq1.cell; have f1 := hq1.frozen; have c2 := hq2.cell; clear hb8 hq0 hq1 hq2) | fail)
      obtain ⟨_, x2, x3, x4, x5, x6⟩ := HX.out w8 HB8.out (.slice none 0 0)
      refine ⟨by simp, .inl ⟨_, _, rfl, run_takeDeferred x2, ?_⟩⟩
      have p0 := x3.cell
      have p1 := x4.cell
      have h2 := HG2.out
      simp only [Bool.false_eq_true, if_false] at h2
      obtain ⟨rfl, rfl⟩ := Prod.mk.inj (Option.some.inj h2)
      exact ⟨.tuple #[.agg #[.slice none 0 0], .bool false], by simp [results, Tryz.f12, go_sem, p0, p1], _, rfl, Kd.S_nil _ _ _ _ _, hN.symm ▸ x6⟩
  case stop =>
    rintro D c W hD' ⟨rfl, hbN, hb1, HGF, hBl⟩ hK
    obtain ⟨rfl, rfl⟩ := HGF.out
    have hDl := (Array.getElem?_eq_some_iff.1 hK).1
    have HN := Lib.hid hbN
    have H1 := Lib.hid hb1
    have HB := Lib.hid hBl
    clear hbN hb1 hBl
    gi_wp2
    refine ⟨by simp, .inl ⟨_, _, rfl, run_takeDeferred hK, ?_⟩⟩
    have p0 := (boxed_same (World.putObj_heap_other (o := .deferred none) (by omega : N ≠ D)) HN.out).cell
    have p1 := (boxed_same (World.putObj_heap_other (o := .deferred none) (by omega : N + 1 ≠ D)) H1.out).cell
    exact ⟨.tuple #[.agg #[.slice none 0 0], .bool false], by simp [results, Tryz.f12, go_sem, p0, p1], _, rfl, Kd.S_nil _ _ _ _ _, bl_putObj HB.out _ (by omega) (by omega) hK⟩
end
end Go.Proofs.YtijooffpjfhidaaGreatDoor.G
end
section
namespace Go.Proofs.YtijooffpjfhidaaGreatDoor.G
open Go.RowKit Go.Proofs.YtijooffpjfhidaaGreatDoorW.PrintWords Go.Proofs.YtijooffpjfhidaaGreatDoorW.PrintLast Go.Proofs.YtijooffpjfhidaaGreatDoorW.PrintMore
attribute [local go_sem] Go.Proofs.YtijooffpjfhidaaGreatDoor.Aid.gtr_string max2_int min2_int max_two min_two max_three min_three max_four min_four
set_option linter.unusedVariables false
set_option linter.unusedSimpArgs false
set_option maxHeartbeats 8000000
set_option maxRecDepth 100000
def hoggetref05_split.l0 : Nat → ByteArray → List ByteArray → Int → Int → Option (List ByteArray)
  | 0, _, _, _, _ => none
  | k + 1, x0, x3, x4, x5 => if (wrap64 (x5 + 1)) < (x0.size : Int) then (if 0 ≤ x5 then (if x5 < (x0.size : Int) then (if (bt x0 x5) = 124 then (if 0 ≤ (wrap64 (x5 + 1)) then (if (bt x0 (wrap64 (x5 + 1))) = 124 then (if 0 ≤ x4 then (if x4 ≤ x5 then (if x5 ≤ (x0.size : Int) then (if x3.length < 8796093022208 then (hoggetref05_split.l0 k x0 (x3 ++ [x0.extract (x4 : Int).toNat (x5 : Int).toNat]) (wrap64 (x5 + 2)) (wrap64 (x5 + 2))) else (none)) else (none)) else (none)) else (none)) else (hoggetref05_split.l0 k x0 x3 x4 (wrap64 (x5 + 1)))) else (none)) else (hoggetref05_split.l0 k x0 x3 x4 (wrap64 (x5 + 1)))) else (none)) else (none)) else (if 0 ≤ x4 then (if x4 ≤ (x0.size : Int) then (if x3.length < 8796093022208 then (some (x3 ++ [x0.extract (x4 : Int).toNat x0.size])) else (none)) else (none)) else (none))
def hoggetref05_split.f (k : Nat) (a0 : ByteArray) : Option (List ByteArray) := hoggetref05_split.l0 k a0 ([] : List ByteArray) 0 0
theorem hoggetref05_split.calls (k : Nat) (a0 : ByteArray) (r : List ByteArray) (w : World) (h : hoggetref05_split.f k a0 = some r) :
 Calls Tryz.prog 27 #[.string a0] w fun e w' => ∃ v0_ : Value, e = .returned (v0_) ∧ Kd.R Kd.string 9 w' w.heap.size (fun _ => True) v0_ r ∧ Below w.heap.size w w' := by
 have HB := Aside0.mk (Below.refl w.heap.size w);have H : (hoggetref05_split.l0 k a0 ([] : List ByteArray) 0 0) = some r := h;clear h;have H' := Aside0.mk H;clear H;(go_enter Tryz.func27, Tryz.ntmps27);go_wp2;go_loopg [3, 4, 5] k (fun kq v3 v4 v5 w' => ∃ (x3_1 : List ByteArray) (x4_1 : Int) (x5_1 : Int), v4 = .int .i64 x4_1 ∧ v5 = .int .i64 x5_1 ∧ Aside0 (hoggetref05_split.l0 kq a0 x3_1 x4_1 x5_1 = some r) ∧ Aside0 (kq ≤ k) ∧ Aside0 (Kd.R Kd.string 9 w' w.heap.size (fun _ => True) v3 x3_1) ∧ Aside0 (Below w.heap.size w w'));(case atStart => exact ⟨(([] : List ByteArray)), (0), (0), sE, sE, H', ⟨Nat.le_refl _⟩, ⟨by first | exact Kd.R_nil _ _ _ _ _ | exact Kd.N_nil _ _ _ _ _ | exact Kd.V_nil _ _ _ _ _ | exact Kd.Q_nil _ _ _ _ _ | exact Kd.S_nil _ _ _ _ _⟩, ⟨sL HB.out⟩⟩)
 case round =>
  clear H';obtain ⟨x3_1, x4_1, x5_1, rfl, rfl, HA, HK1, HO_3, HB⟩ := hrel
  cases gk with
  | zero => exact absurd HA.out (by simp [hoggetref05_split.l0])
  | succ k1 =>
   have H := HA.out;clear HA;simp only [hoggetref05_split.l0] at H;by_cases c2 : (wrap64 (x5_1 + 1)) < (a0.size : Int)
   ·rw [if_pos c2] at H;have c2b0 := decide_eq_true c2;clear c2;by_cases c3 : 0 ≤ x5_1
    ·rw [if_pos c3] at H;have c3b0 := decide_eq_true c3;clear c3;by_cases c4 : x5_1 < (a0.size : Int)
     ·rw [if_pos c4] at H;have c4b0 := decide_eq_true c4;clear c4;by_cases c6 : (bt a0 x5_1) = 124
      ·rw [if_pos c6] at H;have c6b0 := beq_iff_eq.mpr c6;have c6b1 := bne_eq_false_iff_eq.mpr c6;clear c6
       obtain ⟨ji7, hji7⟩ : ∃ j_ : Int, (wrap64 (x5_1 + 1)) = j_ := ⟨_, rfl⟩
       (replace H : (if 0 ≤ (ji7) then (if (bt a0 (ji7)) = 124 then (if 0 ≤ x4_1 then (if x4_1 ≤ x5_1 then (if x5_1 ≤ (a0.size : Int) then (if x3_1.length < 8796093022208 then (hoggetref05_split.l0 k1 a0 (x3_1 ++ [a0.extract (x4_1 : Int).toNat (x5_1 : Int).toNat]) (wrap64 (x5_1 + 2)) (wrap64 (x5_1 + 2))) else (none)) else (none)) else (none)) else (none)) else (hoggetref05_split.l0 k1 a0 x3_1 x4_1 ji7)) else (none)) = some r := by first | (rw [hji7] at H; exact H) | (simp only [hji7] at H ⊢; exact H));(try rw [hji7] at c2b0);have hji7w : (IntKind.i64.wrap (x5_1 + 1)) = ji7 := (i64_w _).trans hji7;by_cases c8 : 0 ≤ (ji7)
       ·rw [if_pos c8] at H;have c8b0 := decide_eq_true c8;clear c8;by_cases c10 : (bt a0 (ji7)) = 124
        ·rw [if_pos c10] at H;have c10b0 := beq_iff_eq.mpr c10;have c10b1 := bne_eq_false_iff_eq.mpr c10;clear c10;by_cases c11 : 0 ≤ x4_1
         ·rw [if_pos c11] at H;have c11b0 := eq_true c11;have c11b1 := decide_eq_true c11;clear c11;by_cases c12 : x4_1 ≤ x5_1
          ·rw [if_pos c12] at H;have c12b0 := eq_true c12;have c12b1 := decide_eq_true c12;clear c12;by_cases c13 : x5_1 ≤ (a0.size : Int)
           ·rw [if_pos c13] at H;have c13b0 := eq_true c13;have c13b1 := decide_eq_true c13;clear c13;by_cases c14 : x3_1.length < 8796093022208
            ·rw [if_pos c14] at H;have LMc14 := Aside0.mk c14;clear c14
             obtain ⟨y194, hy194⟩ : ∃ y_ : List ByteArray, y_ = (x3_1 ++ [a0.extract (x4_1 : Int).toNat (x5_1 : Int).toNat]) := ⟨_, rfl⟩
             (replace H : (hoggetref05_split.l0 k1 a0 y194 (wrap64 (x5_1 + 2)) (wrap64 (x5_1 + 2))) = some r := by first | (rw [hy194]; with_reducible exact H) | (have H2_ := (Option.bind_some _ _).symm.trans H; rw [hy194]; with_reducible exact H2_) | (have H2_ := (Option.bind_some _ _).symm.trans H; with_reducible exact H2_) | with_reducible exact H | (rw [hy194]; exact H) | exact H);have Ny194 := Aside0.mk hy194;clear hy194;have H' := Aside0.mk H;clear H;have p5 : 0 ≤ (x5_1 : Int) := of_decide_eq_true sA;have q5 : x5_1 < (a0.size : Int) := of_decide_eq_true sA;have hx5 := bt_at a0 x5_1;replace p5 := eq_true p5;replace q5 := eq_true q5;have p9 : 0 ≤ ((ji7) : Int) := of_decide_eq_true sA;have q9 : (ji7) < (a0.size : Int) := of_decide_eq_true sA;have hx9 := bt_at a0 (ji7);replace p9 := eq_true p9;replace q9 := eq_true q9;go_wp2_with (first | ((with_reducible refine gate_builtin (b := .append) (xs := #[.tmp 22, .tmp 27]) rfl ?_); at_builtin; refine Kd.R_append Kd.string (w0 := w) w.heap.size rfl (.tmp 22) (.tmp 27) 53 9 (.string ⟨#[]⟩) 16 rfl Tryz.underlying53 info9 rfl (by decide) (by omega) u3 x3_1 (a0.extract (x4_1 : Int).toNat (x5_1 : Int).toNat) [.string (a0.extract (x4_1 : Int).toNat (x5_1 : Int).toNat)] (fun _ => True) (fun _ => False) rfl rfl ?aP (fun _ hk => hk.elim) ?aF ?aO ?aB ?aS ?aL ?_; (case aP => exact rfl); (case aB => exact (sL HB.out)); (case aF => exact (fun _ _ => trivial)); (case aO => exact (sR HO_3.out)); (case aS => exact (below_size (sL HB.out))); (case aL => have := LMc14.out; omega); intro v195 w15 ho hb hg hat; rw [← Ny194.out] at ho; have n0_ := Aside0.mk (hb); have n1_ := Aside0.mk (ho); clear HB; clear HO_3; have HB := n0_; have HO196 := n1_; clear n0_ n1_; clear ho hb hg hat));(go_roundg k1);(case measure => have := HK1.out; omega);(case rel => exact ⟨(y194), (wrap64 (x5_1 + 2)), (wrap64 (x5_1 + 2)), sE, sE, H', ⟨by have := HK1.out; omega⟩, ⟨sR HO196.out⟩, ⟨sL HB.out⟩⟩)
            ·rw [if_neg c14] at H;exact absurd H (by simp)
           ·rw [if_neg c13] at H;exact absurd H (by simp)
          ·rw [if_neg c12] at H;exact absurd H (by simp)
         ·rw [if_neg c11] at H;exact absurd H (by simp)
        ·rw [if_neg c10] at H;have c10b0 := beq_eq_false_iff_ne.mpr c10;have c10b1 := bne_iff_ne.mpr c10;have H' := Aside0.mk H;clear H;have p5 : 0 ≤ (x5_1 : Int) := of_decide_eq_true sA;have q5 : x5_1 < (a0.size : Int) := of_decide_eq_true sA;have hx5 := bt_at a0 x5_1;replace p5 := eq_true p5;replace q5 := eq_true q5;have p9 : 0 ≤ ((ji7) : Int) := of_decide_eq_true sA;have q9 : (ji7) < (a0.size : Int) := of_decide_eq_true sA;have hx9 := bt_at a0 (ji7);replace p9 := eq_true p9;replace q9 := eq_true q9;go_wp2;(go_roundg k1);(case measure => have := HK1.out; omega);(case rel => exact ⟨(x3_1), (x4_1), (ji7), sE, (by first | rfl | (simp; done) | (simp only [← hji7] <;> (first | rfl | simp)) | (simp [*]; done) | exact Aid.ret_ne _ | exact Aid.ret_eq _), H', ⟨by have := HK1.out; omega⟩, ⟨sR HO_3.out⟩, ⟨sL HB.out⟩⟩)
       ·rw [if_neg c8] at H;exact absurd H (by simp)
      ·rw [if_neg c6] at H;have c6b0 := beq_eq_false_iff_ne.mpr c6;have c6b1 := bne_iff_ne.mpr c6;have H' := Aside0.mk H;clear H;have p5 : 0 ≤ (x5_1 : Int) := of_decide_eq_true sA;have q5 : x5_1 < (a0.size : Int) := of_decide_eq_true sA;have hx5 := bt_at a0 x5_1;replace p5 := eq_true p5;replace q5 := eq_true q5;go_wp2;(go_roundg k1);(case measure => have := HK1.out; omega);(case rel => exact ⟨(x3_1), (x4_1), (wrap64 (x5_1 + 1)), sE, sE, H', ⟨by have := HK1.out; omega⟩, ⟨sR HO_3.out⟩, ⟨sL HB.out⟩⟩)
     ·rw [if_neg c4] at H;exact absurd H (by simp)
    ·rw [if_neg c3] at H;exact absurd H (by simp)
   ·rw [if_neg c2] at H;have c2b0 := decide_eq_false c2;clear c2;by_cases c16 : 0 ≤ x4_1
    ·rw [if_pos c16] at H;have c16b0 := eq_true c16;have c16b1 := decide_eq_true c16;clear c16;by_cases c17 : x4_1 ≤ (a0.size : Int)
     ·rw [if_pos c17] at H;have c17b0 := eq_true c17;have c17b1 := decide_eq_true c17;clear c17;by_cases c18 : x3_1.length < 8796093022208
      ·rw [if_pos c18] at H;have LMc18 := Aside0.mk c18;clear c18
       obtain ⟨y197, hy197⟩ : ∃ y_ : List ByteArray, y_ = (x3_1 ++ [a0.extract (x4_1 : Int).toNat a0.size]) := ⟨_, rfl⟩
       (replace H : (some y197) = some r := by first | (rw [hy197]; with_reducible exact H) | (have H2_ := (Option.bind_some _ _).symm.trans H; rw [hy197]; with_reducible exact H2_) | (have H2_ := (Option.bind_some _ _).symm.trans H; with_reducible exact H2_) | with_reducible exact H | (rw [hy197]; exact H) | exact H);have Ny197 := Aside0.mk hy197;clear hy197;obtain rfl := Option.some.inj H;go_wp2_with (first | ((with_reducible refine gate_builtin (b := .append) (xs := #[.tmp 34, .tmp 38]) rfl ?_); at_builtin; refine Kd.R_append Kd.string (w0 := w) w.heap.size rfl (.tmp 34) (.tmp 38) 53 9 (.string ⟨#[]⟩) 16 rfl Tryz.underlying53 info9 rfl (by decide) (by omega) u3 x3_1 (a0.extract (x4_1 : Int).toNat a0.size) [.string (a0.extract (x4_1 : Int).toNat a0.size)] (fun _ => True) (fun _ => False) rfl rfl ?aP (fun _ hk => hk.elim) ?aF ?aO ?aB ?aS ?aL ?_; (case aP => exact rfl); (case aB => exact (sL HB.out)); (case aF => exact (fun _ _ => trivial)); (case aO => exact (sR HO_3.out)); (case aS => exact (below_size (sL HB.out))); (case aL => have := LMc18.out; omega); intro v198 w19 ho hb hg hat; rw [← Ny197.out] at ho; have n0_ := Aside0.mk (hb); have n1_ := Aside0.mk (ho); clear HB; clear HO_3; have HB := n0_; have HO199 := n1_; clear n0_ n1_; clear ho hb hg hat));go_ret;exact ⟨_, by first | rfl | (simp [errW_none, errW_some] <;> rfl) | (simp [*, errW_none, errW_some] <;> rfl), by refine sR ?_; exact HO199.out, sL HB.out⟩
      ·rw [if_neg c18] at H;exact absurd H (by simp)
     ·rw [if_neg c17] at H;exact absurd H (by simp)
    ·rw [if_neg c16] at H;exact absurd H (by simp)
def hoggetref04_Cut.l0 : Nat → ByteArray → Int → List ByteArray → Int → Int → Option (List ByteArray)
  | 0, _, _, _, _, _ => none
  | k + 1, x0, x1, x5, x6, x7 => if x7 ≤ (x0.size : Int) then (if x7 = (x0.size : Int) then (if 0 ≤ x6 then (if x6 ≤ x7 then (if x5.length < 8796093022208 then (hoggetref04_Cut.l0 k x0 x1 (x5 ++ [x0.extract (x6 : Int).toNat (x7 : Int).toNat]) (wrap64 (x7 + 1)) (wrap64 (x7 + 1))) else (none)) else (none)) else (none)) else (if 0 ≤ x7 then (if x7 < (x0.size : Int) then (if (bt x0 x7) = x1 then (if 0 ≤ x6 then (if x6 ≤ x7 then (if x5.length < 8796093022208 then (hoggetref04_Cut.l0 k x0 x1 (x5 ++ [x0.extract (x6 : Int).toNat (x7 : Int).toNat]) (wrap64 (x7 + 1)) (wrap64 (x7 + 1))) else (none)) else (none)) else (none)) else (hoggetref04_Cut.l0 k x0 x1 x5 x6 (wrap64 (x7 + 1)))) else (none)) else (none))) else (some x5)
def hoggetref04_Cut.f (k : Nat) (a0 : ByteArray) (a1 : Int) : Option (List ByteArray) := hoggetref04_Cut.l0 k a0 a1 ([] : List ByteArray) 0 0
theorem hoggetref04_Cut.calls (k : Nat) (a0 : ByteArray) (a1 : Int) (r : List ByteArray) (w : World) (h : hoggetref04_Cut.f k a0 a1 = some r) :
 Calls Tryz.prog 46 #[.string a0, .int .u8 a1] w fun e w' => ∃ v0_ : Value, e = .returned (v0_) ∧ Kd.R Kd.string 9 w' w.heap.size (fun _ => True) v0_ r ∧ Below w.heap.size w w' := by
 have HB := Aside0.mk (Below.refl w.heap.size w);have H : (hoggetref04_Cut.l0 k a0 a1 ([] : List ByteArray) 0 0) = some r := h;clear h;have H' := Aside0.mk H;clear H;(go_enter Tryz.func46, Tryz.ntmps46);go_wp2;go_loopg [5, 6, 7] k (fun kq v5 v6 v7 w' => ∃ (x5_1 : List ByteArray) (x6_1 : Int) (x7_1 : Int), v6 = .int .i64 x6_1 ∧ v7 = .int .i64 x7_1 ∧ Aside0 (hoggetref04_Cut.l0 kq a0 a1 x5_1 x6_1 x7_1 = some r) ∧ Aside0 (kq ≤ k) ∧ Aside0 (Kd.R Kd.string 9 w' w.heap.size (fun _ => True) v5 x5_1) ∧ Aside0 (Below w.heap.size w w'));(case atStart => exact ⟨(([] : List ByteArray)), (0), (0), sE, sE, H', ⟨Nat.le_refl _⟩, ⟨by first | exact Kd.R_nil _ _ _ _ _ | exact Kd.N_nil _ _ _ _ _ | exact Kd.V_nil _ _ _ _ _ | exact Kd.Q_nil _ _ _ _ _ | exact Kd.S_nil _ _ _ _ _⟩, ⟨sL HB.out⟩⟩)
 case round =>
  clear H';(try clear p2);obtain ⟨x5_1, x6_1, x7_1, rfl, rfl, HA, HK1, HO_5, HB⟩ := hrel
  cases gk with
  | zero => exact absurd HA.out (by simp [hoggetref04_Cut.l0])
  | succ k1 =>
   have H := HA.out;clear HA;simp only [hoggetref04_Cut.l0] at H;by_cases c3 : x7_1 ≤ (a0.size : Int)
   ·rw [if_pos c3] at H;have c3b0 := decide_eq_true c3;clear c3;by_cases c4 : x7_1 = (a0.size : Int)
    ·rw [if_pos c4] at H;have c4b0 := beq_iff_eq.mpr c4;have c4b1 := bne_eq_false_iff_eq.mpr c4;clear c4;by_cases c5 : 0 ≤ x6_1
     ·rw [if_pos c5] at H;have c5b0 := eq_true c5;have c5b1 := decide_eq_true c5;clear c5;by_cases c6 : x6_1 ≤ x7_1
      ·rw [if_pos c6] at H;have c6b0 := eq_true c6;have c6b1 := decide_eq_true c6;clear c6;have c7b0 := eq_true (of_decide_eq_true sA : x7_1 ≤ (a0.size : Int));by_cases c8 : x5_1.length < 8796093022208
       ·rw [if_pos c8] at H;have LMc8 := Aside0.mk c8;clear c8
        obtain ⟨y200, hy200⟩ : ∃ y_ : List ByteArray, y_ = (x5_1 ++ [a0.extract (x6_1 : Int).toNat (x7_1 : Int).toNat]) := ⟨_, rfl⟩
        (replace H : (hoggetref04_Cut.l0 k1 a0 a1 y200 (wrap64 (x7_1 + 1)) (wrap64 (x7_1 + 1))) = some r := by first | (rw [hy200]; with_reducible exact H) | (have H2_ := (Option.bind_some _ _).symm.trans H; rw [hy200]; with_reducible exact H2_) | (have H2_ := (Option.bind_some _ _).symm.trans H; with_reducible exact H2_) | with_reducible exact H | (rw [hy200]; exact H) | exact H);have Ny200 := Aside0.mk hy200;clear hy200;have H' := Aside0.mk H;clear H;go_wp2_with (first | ((with_reducible refine gate_builtin (b := .append) (xs := #[.tmp 25, .tmp 30]) rfl ?_); at_builtin; refine Kd.R_append Kd.string (w0 := w) w.heap.size rfl (.tmp 25) (.tmp 30) 53 9 (.string ⟨#[]⟩) 16 rfl Tryz.underlying53 info9 rfl (by decide) (by omega) u5 x5_1 (a0.extract (x6_1 : Int).toNat (x7_1 : Int).toNat) [.string (a0.extract (x6_1 : Int).toNat (x7_1 : Int).toNat)] (fun _ => True) (fun _ => False) rfl rfl ?aP (fun _ hk => hk.elim) ?aF ?aO ?aB ?aS ?aL ?_; (case aP => exact rfl); (case aB => exact (sL HB.out)); (case aF => exact (fun _ _ => trivial)); (case aO => exact (sR HO_5.out)); (case aS => exact (below_size (sL HB.out))); (case aL => have := LMc8.out; omega); intro v201 w9 ho hb hg hat; rw [← Ny200.out] at ho; have n0_ := Aside0.mk (hb); have n1_ := Aside0.mk (ho); clear HB; clear HO_5; have HB := n0_; have HO202 := n1_; clear n0_ n1_; clear ho hb hg hat));(go_roundg k1);(case measure => have := HK1.out; omega);(case rel => exact ⟨(y200), (wrap64 (x7_1 + 1)), (wrap64 (x7_1 + 1)), sE, sE, H', ⟨by have := HK1.out; omega⟩, ⟨sR HO202.out⟩, ⟨sL HB.out⟩⟩)
       ·rw [if_neg c8] at H;exact absurd H (by simp)
      ·rw [if_neg c6] at H;exact absurd H (by simp)
     ·rw [if_neg c5] at H;exact absurd H (by simp)
    ·rw [if_neg c4] at H;have c4b0 := beq_eq_false_iff_ne.mpr c4;have c4b1 := bne_iff_ne.mpr c4;by_cases c10 : 0 ≤ x7_1
     ·rw [if_pos c10] at H;have c10b0 := decide_eq_true c10;clear c10;by_cases c11 : x7_1 < (a0.size : Int)
      ·rw [if_pos c11] at H;have c11b0 := decide_eq_true c11;clear c11;by_cases c13 : (bt a0 x7_1) = a1
       ·rw [if_pos c13] at H;have c13b0 := beq_iff_eq.mpr c13;have c13b1 := bne_eq_false_iff_eq.mpr c13;clear c13;by_cases c14 : 0 ≤ x6_1
        ·rw [if_pos c14] at H;have c14b0 := eq_true c14;have c14b1 := decide_eq_true c14;clear c14;by_cases c15 : x6_1 ≤ x7_1
         ·rw [if_pos c15] at H;have c15b0 := eq_true c15;have c15b1 := decide_eq_true c15;clear c15;have c16b0 := eq_true (of_decide_eq_true sA : x7_1 ≤ (a0.size : Int));by_cases c17 : x5_1.length < 8796093022208
          ·rw [if_pos c17] at H;have LMc17 := Aside0.mk c17;clear c17
           obtain ⟨y203, hy203⟩ : ∃ y_ : List ByteArray, y_ = (x5_1 ++ [a0.extract (x6_1 : Int).toNat (x7_1 : Int).toNat]) := ⟨_, rfl⟩
           (replace H : (hoggetref04_Cut.l0 k1 a0 a1 y203 (wrap64 (x7_1 + 1)) (wrap64 (x7_1 + 1))) = some r := by first | (rw [hy203]; with_reducible exact H) | (have H2_ := (Option.bind_some _ _).symm.trans H; rw [hy203]; with_reducible exact H2_) | (have H2_ := (Option.bind_some _ _).symm.trans H; with_reducible exact H2_) | with_reducible exact H | (rw [hy203]; exact H) | exact H);have Ny203 := Aside0.mk hy203;clear hy203;have H' := Aside0.mk H;clear H;have p12 : 0 ≤ (x7_1 : Int) := of_decide_eq_true sA;have q12 : x7_1 < (a0.size : Int) := of_decide_eq_true sA;have hx12 := bt_at a0 x7_1;replace p12 := eq_true p12;replace q12 := eq_true q12;go_wp2_with (first | ((with_reducible refine gate_builtin (b := .append) (xs := #[.tmp 25, .tmp 30]) rfl ?_); at_builtin; refine Kd.R_append Kd.string (w0 := w) w.heap.size rfl (.tmp 25) (.tmp 30) 53 9 (.string ⟨#[]⟩) 16 rfl Tryz.underlying53 info9 rfl (by decide) (by omega) u5 x5_1 (a0.extract (x6_1 : Int).toNat (x7_1 : Int).toNat) [.string (a0.extract (x6_1 : Int).toNat (x7_1 : Int).toNat)] (fun _ => True) (fun _ => False) rfl rfl ?aP (fun _ hk => hk.elim) ?aF ?aO ?aB ?aS ?aL ?_; (case aP => exact rfl); (case aB => exact (sL HB.out)); (case aF => exact (fun _ _ => trivial)); (case aO => exact (sR HO_5.out)); (case aS => exact (below_size (sL HB.out))); (case aL => have := LMc17.out; omega); intro v204 w18 ho hb hg hat; rw [← Ny203.out] at ho; have n0_ := Aside0.mk (hb); have n1_ := Aside0.mk (ho); clear HB; clear HO_5; have HB := n0_; have HO205 := n1_; clear n0_ n1_; clear ho hb hg hat));(go_roundg k1);(case measure => have := HK1.out; omega);(case rel => exact ⟨(y203), (wrap64 (x7_1 + 1)), (wrap64 (x7_1 + 1)), sE, sE, H', ⟨by have := HK1.out; omega⟩, ⟨sR HO205.out⟩, ⟨sL HB.out⟩⟩)
          ·rw [if_neg c17] at H;exact absurd H (by simp)
         ·rw [if_neg c15] at H;exact absurd H (by simp)
        ·rw [if_neg c14] at H;exact absurd H (by simp)
       ·rw [if_neg c13] at H;have c13b0 := beq_eq_false_iff_ne.mpr c13;have c13b1 := bne_iff_ne.mpr c13;have H' := Aside0.mk H;clear H;have p12 : 0 ≤ (x7_1 : Int) := of_decide_eq_true sA;have q12 : x7_1 < (a0.size : Int) := of_decide_eq_true sA;have hx12 := bt_at a0 x7_1;replace p12 := eq_true p12;replace q12 := eq_true q12;go_wp2;(go_roundg k1);(case measure => have := HK1.out; omega);(case rel => exact ⟨(x5_1), (x6_1), (wrap64 (x7_1 + 1)), sE, sE, H', ⟨by have := HK1.out; omega⟩, ⟨sR HO_5.out⟩, ⟨sL HB.out⟩⟩)
      ·rw [if_neg c11] at H;exact absurd H (by simp)
     ·rw [if_neg c10] at H;exact absurd H (by simp)
   ·rw [if_neg c3] at H;have c3b0 := decide_eq_false c3;clear c3;obtain rfl := Option.some.inj H;go_wp2;go_ret;exact ⟨_, by first | rfl | (simp [errW_none, errW_some] <;> rfl) | (simp [*, errW_none, errW_some] <;> rfl), by refine sR ?_; exact HO_5.out, sL HB.out⟩
def hoggetref05_words.l0 : Nat → List ByteArray → List ByteArray → Int → Option (List ByteArray)
  | 0, _, _, _ => none
  | k + 1, x3, x4, x5 => if x5 < (x3.length : Int) then (if 0 ≤ x5 then (if (rdOf ByteArray.empty x3 x5).toList = ([] : List UInt8) then (hoggetref05_words.l0 k x3 x4 (wrap64 (x5 + 1))) else (if x4.length < 8796093022208 then (hoggetref05_words.l0 k x3 (x4 ++ [rdOf ByteArray.empty x3 x5]) (wrap64 (x5 + 1))) else (none))) else (none)) else (some x4)
def hoggetref05_words.f (k : Nat) (a0 : ByteArray) : Option (List ByteArray) := (hoggetref04_Cut.f k a0 32).bind fun t206 => (hoggetref05_words.l0 k t206 ([] : List ByteArray) 0)
theorem hoggetref05_words.calls (k : Nat) (a0 : ByteArray) (r : List ByteArray) (w : World) (h : hoggetref05_words.f k a0 = some r) :
 Calls Tryz.prog 28 #[.string a0] w fun e w' => ∃ v0_ : Value, e = .returned (v0_) ∧ Kd.R Kd.string 9 w' w.heap.size (fun _ => True) v0_ r ∧ Below w.heap.size w w' := by
 have HB := Aside0.mk (Below.refl w.heap.size w);have H : ((hoggetref04_Cut.f k a0 32).bind fun t206 => (hoggetref05_words.l0 k t206 ([] : List ByteArray) 0)) = some r := h;clear h;replace H := Option.bind_eq_some_iff.mp H;obtain ⟨t206, A20, H⟩ := H;have A2 := Aside0.mk A20;clear A20;have H' := Aside0.mk H;clear H;(go_enter Tryz.func28, Tryz.ntmps28);go_wp2_with (first | ((with_reducible refine gate_callee (f := 46) rfl ?_); refine goesL_ (some 7) rfl rfl Tryz.func46 (by kernel_rfl) rfl #[.string a0, .int .u8 32] rfl sM ?_; (with_reducible refine (hoggetref04_Cut.calls k a0 32 t206 _ A2.out).mono ?_); rintro e w3 ⟨v207, rfl, ho0, hb⟩; refine ⟨_, rfl, ?_⟩; have n0_ := Aside0.mk (Kd.R_lower ho0 (below_size (sL HB.out))); have n1_ := Aside0.mk (below_step (sL HB.out) hb); clear HB; have HO208 := n0_; have HB := n1_; clear n0_ n1_; (try clear hb); (try clear hb2); (try clear hk); (try clear hi); (try clear ho0)));go_loopg [4, 5] k (fun kq v4 v5 w' => ∃ (x4_1 : List ByteArray) (x5_1 : Int), v5 = .int .i64 x5_1 ∧ Aside0 (hoggetref05_words.l0 kq t206 x4_1 x5_1 = some r) ∧ Aside0 (kq ≤ k) ∧ Aside0 (Kd.R Kd.string 9 w' w.heap.size (fun k_ => some k_ ≠ (v4 : Value).ownBlock) v207 t206) ∧ Aside0 (Kd.R Kd.string 9 w' w.heap.size (fun k_ => some k_ ≠ (v207 : Value).ownBlock) v4 x4_1) ∧ Aside0 (Below w.heap.size w w'));(case atStart => exact ⟨(([] : List ByteArray)), (0), sE, H', ⟨Nat.le_refl _⟩, ⟨by refine sR ?_; exact Kd.R_mono HO208.out (fun _ hk => (by simp [Value.ownBlock]))⟩, ⟨by first | exact Kd.R_nil _ _ _ _ _ | exact Kd.N_nil _ _ _ _ _ | exact Kd.V_nil _ _ _ _ _ | exact Kd.Q_nil _ _ _ _ _ | exact Kd.S_nil _ _ _ _ _⟩, ⟨sL HB.out⟩⟩)
 case round =>
  clear H';(try clear c2);(try clear p2);obtain ⟨x4_1, x5_1, rfl, HA, HK1, HO_3, HO_4, HB⟩ := hrel
  cases gk with
  | zero => exact absurd HA.out (by simp [hoggetref05_words.l0])
  | succ k1 =>
   have H := HA.out;clear HA;simp only [hoggetref05_words.l0] at H;by_cases c4 : x5_1 < (t206.length : Int)
   ·rw [if_pos c4] at H;have c4b0 := decide_eq_true c4;clear c4;by_cases c5 : 0 ≤ x5_1
    ·rw [if_pos c5] at H;have c5b0 := decide_eq_true c5;clear c5;by_cases c6 : (rdOf ByteArray.empty t206 x5_1).toList = ([] : List UInt8)
     ·rw [if_pos c6] at H;have c6b0 := beq_iff_eq.mpr c6;have c6b1 := bne_eq_false_iff_eq.mpr c6;clear c6;have H' := Aside0.mk H;clear H;obtain ⟨Ao7, co7, eo7⟩ := Kd.R_slice HO_3.out;subst eo7;have p209 : 0 ≤ (x5_1 : Int) := of_decide_eq_true sA;have q209 : x5_1 < (t206.length : Int) := of_decide_eq_true sA;obtain ⟨ad209, e209, hx209_0⟩ := Kd.at_string (Kd.R_reads' HO_3.out).2.2 x5_1 p209 q209;cases e209;replace p209 := eq_true p209;replace q209 := eq_true q209;go_wp2;(go_roundg k1);(case measure => have := HK1.out; omega);(case rel => exact ⟨(x4_1), (wrap64 (x5_1 + 1)), sE, H', ⟨by have := HK1.out; omega⟩, ⟨sR HO_3.out⟩, ⟨sR HO_4.out⟩, ⟨sL HB.out⟩⟩)
     ·rw [if_neg c6] at H;have c6b0 := beq_eq_false_iff_ne.mpr c6;have c6b1 := bne_iff_ne.mpr c6;by_cases c8 : x4_1.length < 8796093022208
      ·rw [if_pos c8] at H;have LMc8 := Aside0.mk c8;clear c8
       obtain ⟨y211, hy211⟩ : ∃ y_ : List ByteArray, y_ = (x4_1 ++ [rdOf ByteArray.empty t206 x5_1]) := ⟨_, rfl⟩
       (replace H : (hoggetref05_words.l0 k1 t206 y211 (wrap64 (x5_1 + 1))) = some r := by first | (rw [hy211]; with_reducible exact H) | (have H2_ := (Option.bind_some _ _).symm.trans H; rw [hy211]; with_reducible exact H2_) | (have H2_ := (Option.bind_some _ _).symm.trans H; with_reducible exact H2_) | with_reducible exact H | (rw [hy211]; exact H) | exact H);have Ny211 := Aside0.mk hy211;clear hy211;have H' := Aside0.mk H;clear H;obtain ⟨Ao9, co9, eo9⟩ := Kd.R_slice HO_3.out;subst eo9;have p209 : 0 ≤ (x5_1 : Int) := of_decide_eq_true sA;have q209 : x5_1 < (t206.length : Int) := of_decide_eq_true sA;obtain ⟨ad209, e209, hx209_0⟩ := Kd.at_string (Kd.R_reads' HO_3.out).2.2 x5_1 p209 q209;cases e209;replace p209 := eq_true p209;replace q209 := eq_true q209;have p210 : 0 ≤ (x5_1 : Int) := of_decide_eq_true sA;have q210 : x5_1 < (t206.length : Int) := of_decide_eq_true sA;obtain ⟨ad210, e210, hx210_0⟩ := Kd.at_string (Kd.R_reads' HO_3.out).2.2 x5_1 p210 q210
       obtain rfl : ad209 = ad210 := (by injection e210)
       replace p210 := eq_true p210;replace q210 := eq_true q210;go_wp2_with (first | ((with_reducible refine gate_builtin (b := .append) (xs := #[.tmp 19, .tmp 24]) rfl ?_); at_builtin; refine Kd.R_append Kd.string (w0 := w) w.heap.size rfl (.tmp 19) (.tmp 24) 53 9 (.string ⟨#[]⟩) 16 rfl Tryz.underlying53 info9 rfl (by decide) (by omega) u4 x4_1 (rdOf ByteArray.empty t206 x5_1) [.string (rdOf ByteArray.empty t206 x5_1)] (fun k_ => some k_ ≠ (.slice (some ad209) t206.length co9 : Value).ownBlock) (fun _ => False) rfl rfl ?aP (fun _ hk => hk.elim) ?aF ?aO ?aB ?aS ?aL ?_; (case aP => exact rfl); (case aB => exact (sL HB.out)); (case aF => exact (fun k_ hk => Kd.fresh' (Kd.R_lt (sR HO_3.out)) k_ hk)); (case aO => exact (sR HO_4.out)); (case aS => exact (below_size (sL HB.out))); (case aL => have := LMc8.out; omega); intro v212 w10 ho hb hg hat; rw [← Ny211.out] at ho; have n0_ := Aside0.mk (Kd.R_after (ok := (fun _ => True)) (by refine sR ?_; exact Kd.R_mono HO_3.out (fun _ hk => ⟨trivial, hk⟩)) hg hat); have n1_ := Aside0.mk (hb); have n2_ := Aside0.mk (ho); clear HO_3; clear HB; clear HO_4; have HO_3 := n0_; have HB := n1_; have HO213 := n2_; clear n0_ n1_ n2_; clear ho hb hg hat));(go_roundg k1);(case measure => have := HK1.out; omega);(case rel => exact ⟨(y211), (wrap64 (x5_1 + 1)), sE, H', ⟨by have := HK1.out; omega⟩, ⟨by refine sR ?_; exact Kd.R_mono HO_3.out (fun _ hk => hk.2)⟩, ⟨sR HO213.out⟩, ⟨sL HB.out⟩⟩)
      ·rw [if_neg c8] at H;exact absurd H (by simp)
    ·rw [if_neg c5] at H;exact absurd H (by simp)
   ·rw [if_neg c4] at H;have c4b0 := decide_eq_false c4;clear c4;obtain rfl := Option.some.inj H;obtain ⟨Ao11, co11, eo11⟩ := Kd.R_slice HO_3.out;subst eo11;go_wp2;go_ret;exact ⟨_, by first | rfl | (simp [errW_none, errW_some] <;> rfl) | (simp [*, errW_none, errW_some] <;> rfl), by refine sR ?_; exact Kd.R_mono HO_4.out (fun _ hk => trivial), sL HB.out⟩
def hoggetref04_digits.l0 : Nat → ByteArray → Int → Option (Bool)
  | 0, _, _ => none
  | k + 1, x0, x3 => if x3 < (x0.size : Int) then (if 0 ≤ x3 then (if (bt x0 x3) < 48 then (some false) else (if (bt x0 x3) > 57 then (some false) else (hoggetref04_digits.l0 k x0 (wrap64 (x3 + 1))))) else (none)) else (some (x0.toList != ([] : List UInt8)))
def hoggetref04_digits.f (k : Nat) (a0 : ByteArray) : Option (Bool) := hoggetref04_digits.l0 k a0 0
theorem hoggetref04_digits.calls (k : Nat) (a0 : ByteArray) (r : Bool) (w : World) (h : hoggetref04_digits.f k a0 = some r) :
 Calls Tryz.prog 84 #[.string a0] w fun e w' => e = .returned (.bool r) ∧ Drawn0 w w' := by
 have H : (hoggetref04_digits.l0 k a0 0) = some r := h;clear h;have H' := Aside0.mk H;clear H;(go_enter Tryz.func84, Tryz.ntmps84);go_wp2;go_loopg [3] k (fun kq v3 w' => ∃ (x3_1 : Int), v3 = .int .i64 x3_1 ∧ Aside0 (hoggetref04_digits.l0 kq a0 x3_1 = some r) ∧ Aside0 (kq ≤ k) ∧ Drawn0 w w');(case atStart => exact ⟨(0), sE, H', ⟨Nat.le_refl _⟩, sD⟩)
 case round =>
  clear H';obtain ⟨x3_1, rfl, HA, HK1, ⟨m1, rfl⟩⟩ := hrel
  cases gk with
  | zero => exact absurd HA.out (by simp [hoggetref04_digits.l0])
  | succ k1 =>
   have H := HA.out;clear HA;simp only [hoggetref04_digits.l0] at H;by_cases c2 : x3_1 < (a0.size : Int)
   ·rw [if_pos c2] at H;have c2b0 := decide_eq_true c2;clear c2;by_cases c3 : 0 ≤ x3_1
    ·rw [if_pos c3] at H;have c3b0 := decide_eq_true c3;clear c3;by_cases c5 : (bt a0 x3_1) < 48
     ·rw [if_pos c5] at H;have c5b0 := decide_eq_true c5;clear c5;obtain rfl := Option.some.inj H;have p4 : 0 ≤ (x3_1 : Int) := of_decide_eq_true sA;have q4 : x3_1 < (a0.size : Int) := of_decide_eq_true sA;have hx4 := bt_at a0 x3_1;replace p4 := eq_true p4;replace q4 := eq_true q4;go_wp2;go_ret;exact ⟨sE, sD⟩
     ·rw [if_neg c5] at H;have c5b0 := decide_eq_false c5;clear c5;by_cases c7 : (bt a0 x3_1) > 57
      ·rw [if_pos c7] at H;have c7b0 := decide_eq_true c7;clear c7;obtain rfl := Option.some.inj H;have p4 : 0 ≤ (x3_1 : Int) := of_decide_eq_true sA;have q4 : x3_1 < (a0.size : Int) := of_decide_eq_true sA;have hx4 := bt_at a0 x3_1;replace p4 := eq_true p4;replace q4 := eq_true q4;have p6 : 0 ≤ (x3_1 : Int) := of_decide_eq_true sA;have q6 : x3_1 < (a0.size : Int) := of_decide_eq_true sA;have hx6 := bt_at a0 x3_1;replace p6 := eq_true p6;replace q6 := eq_true q6;go_wp2;go_ret;exact ⟨sE, sD⟩
      ·rw [if_neg c7] at H;have c7b0 := decide_eq_false c7;clear c7;have H' := Aside0.mk H;clear H;have p4 : 0 ≤ (x3_1 : Int) := of_decide_eq_true sA;have q4 : x3_1 < (a0.size : Int) := of_decide_eq_true sA;have hx4 := bt_at a0 x3_1;replace p4 := eq_true p4;replace q4 := eq_true q4;have p6 : 0 ≤ (x3_1 : Int) := of_decide_eq_true sA;have q6 : x3_1 < (a0.size : Int) := of_decide_eq_true sA;have hx6 := bt_at a0 x3_1;replace p6 := eq_true p6;replace q6 := eq_true q6;go_wp2;(go_roundg k1);(case measure => have := HK1.out; omega);(case rel => exact ⟨(wrap64 (x3_1 + 1)), sE, H', ⟨by have := HK1.out; omega⟩, sD⟩)
    ·rw [if_neg c3] at H;exact absurd H (by simp)
   ·rw [if_neg c2] at H;have c2b0 := decide_eq_false c2;clear c2;obtain rfl := Option.some.inj H;go_wp2;go_ret;exact ⟨sE, sD⟩
mutual
def hoggetref04_Number.j0 : Nat → ByteArray → Bool → Option (Int)
  | 0, _, _ => none
  | k + 1, x0, x22 => if x22 = true then (some (-1)) else (hoggetref04_Number.l0 k x0 0 0)
def hoggetref04_Number.l0 : Nat → ByteArray → Int → Int → Option (Int)
  | 0, _, _, _ => none
  | k + 1, x0, x3, x4 => if x4 < (x0.size : Int) then (if 0 ≤ x4 then (hoggetref04_Number.l0 k x0 (wrap64 ((wrap64 (10 * x3)) + (((bt x0 x4) - 48) % 256))) (wrap64 (x4 + 1))) else (none)) else (some x3)
end
def hoggetref04_Number.f (k : Nat) (a0 : ByteArray) : Option (Int) := (hoggetref04_digits.f k a0).bind fun t214 => (if t214 = true then (if (a0.size : Int) > 6 then (hoggetref04_Number.j0 k a0 true) else (if 0 < (a0.size : Int) then (if (bt a0 0) = 48 then (hoggetref04_Number.j0 k a0 (decide ((a0.size : Int) > 1))) else (hoggetref04_Number.j0 k a0 false)) else (none))) else (hoggetref04_Number.j0 k a0 true))
theorem hoggetref04_Number.calls (k : Nat) (a0 : ByteArray) (r : Int) (w : World) (h : hoggetref04_Number.f k a0 = some r) :
 Calls Tryz.prog 76 #[.string a0] w fun e w' => e = .returned (.int .i64 r) ∧ Drawn0 w w' := by
 have H : ((hoggetref04_digits.f k a0).bind fun t214 => (if t214 = true then (if (a0.size : Int) > 6 then (hoggetref04_Number.j0 k a0 true) else (if 0 < (a0.size : Int) then (if (bt a0 0) = 48 then (hoggetref04_Number.j0 k a0 (decide ((a0.size : Int) > 1))) else (hoggetref04_Number.j0 k a0 false)) else (none))) else (hoggetref04_Number.j0 k a0 true))) = some r := h;clear h;have HC2 := Aside0.mk H;clear H;(go_enter Tryz.func76, Tryz.ntmps76);(go_upto_region 1 with (fail));go_cut [22] (fun v22 wc => ∃ (kq : Nat) (x22_1 : Bool), v22 = .bool x22_1 ∧ Aside0 (hoggetref04_Number.j0 kq a0 x22_1 = some r) ∧ Aside0 (kq ≤ k) ∧ Drawn0 w wc)
 case first =>
  have H := HC2.out;clear HC2;replace H := Option.bind_eq_some_iff.mp H;obtain ⟨t214, A30, H⟩ := H;have A3 := Aside0.mk A30;clear A30;by_cases c4 : t214 = true
  ·subst c4;(have H1 : (if (a0.size : Int) > 6 then (hoggetref04_Number.j0 k a0 true) else (if 0 < (a0.size : Int) then (if (bt a0 0) = 48 then (hoggetref04_Number.j0 k a0 (decide ((a0.size : Int) > 1))) else (hoggetref04_Number.j0 k a0 false)) else (none))) = some r := by rw [if_pos rfl] at H; exact H);clear H;have H := H1;clear H1;by_cases c5 : (a0.size : Int) > 6
   ·rw [if_pos c5] at H;have c5b0 := decide_eq_true c5;have c5b1 : decide (6 < a0.size) = true := decide_eq_true (by omega);clear c5;(first | rw [c5b0] | (simp only [i64_w, i32_w]; rw [c5b0]) | skip);have H' := Aside0.mk H;clear H;go_wp2_with (first | ((with_reducible refine gate_callee (f := 84) rfl ?_); refine goesL_ (some 6) rfl rfl Tryz.func84 (by kernel_rfl) rfl #[.string a0] rfl sM ?_; (with_reducible refine (hoggetref04_digits.calls k a0 true _ A3.out).mono ?_); rintro e w' ⟨rfl, ⟨nd, rfl⟩⟩; refine ⟨_, rfl, ?_⟩));go_meet;(case rel => exact ⟨_, (true), sE, H', ⟨by first | omega | exact Nat.le_refl _⟩, sD⟩)
   ·rw [if_neg c5] at H;have c5b0 := decide_eq_false c5;have c5b1 : decide (6 < a0.size) = false := decide_eq_false (by omega);clear c5;(first | rw [c5b0] | (simp only [i64_w, i32_w]; rw [c5b0]) | skip);by_cases c6 : 0 < (a0.size : Int)
    ·rw [if_pos c6] at H;have c6b0 := decide_eq_true c6;have c6b1 : decide (0 < a0.size) = true := decide_eq_true (by omega);clear c6;by_cases c8 : (bt a0 0) = 48
     ·rw [if_pos c8] at H;have c8b0 := beq_iff_eq.mpr c8;have c8b1 := bne_eq_false_iff_eq.mpr c8;clear c8;have H' := Aside0.mk H;clear H;go_wp2_with (first | ((with_reducible refine gate_callee (f := 84) rfl ?_); refine goesL_ (some 6) rfl rfl Tryz.func84 (by kernel_rfl) rfl #[.string a0] rfl sM ?_; (with_reducible refine (hoggetref04_digits.calls k a0 true _ A3.out).mono ?_); rintro e w' ⟨rfl, ⟨nd, rfl⟩⟩; refine ⟨_, rfl, ?_⟩; have p7 : 0 ≤ (0 : Int) := (by omega); have q7 : 0 < a0.size := (by have : (0 : Int) < (a0.size : Int) := of_decide_eq_true sA; omega); have hx7 : ∀ h : 0 < a0.size, ((a0[0]'h).toNat : Int) = bt a0 0 := bt_at a0 0; clear p7; have qi7 : (0 < (a0.size : Int)) = True := eq_true (of_decide_eq_true sA); replace q7 := eq_true q7));go_meet;(case rel => exact ⟨_, (decide ((a0.size : Int) > 1)), sE, H', ⟨by first | omega | exact Nat.le_refl _⟩, sD⟩)
     ·rw [if_neg c8] at H;have c8b0 := beq_eq_false_iff_ne.mpr c8;have c8b1 := bne_iff_ne.mpr c8;have H' := Aside0.mk H;clear H;go_wp2_with (first | ((with_reducible refine gate_callee (f := 84) rfl ?_); refine goesL_ (some 6) rfl rfl Tryz.func84 (by kernel_rfl) rfl #[.string a0] rfl sM ?_; (with_reducible refine (hoggetref04_digits.calls k a0 true _ A3.out).mono ?_); rintro e w' ⟨rfl, ⟨nd, rfl⟩⟩; refine ⟨_, rfl, ?_⟩; have p7 : 0 ≤ (0 : Int) := (by omega); have q7 : 0 < a0.size := (by have : (0 : Int) < (a0.size : Int) := of_decide_eq_true sA; omega); have hx7 : ∀ h : 0 < a0.size, ((a0[0]'h).toNat : Int) = bt a0 0 := bt_at a0 0; clear p7; have qi7 : (0 < (a0.size : Int)) = True := eq_true (of_decide_eq_true sA); replace q7 := eq_true q7));go_meet;(case rel => exact ⟨_, (false), sE, H', ⟨by first | omega | exact Nat.le_refl _⟩, sD⟩)
    ·rw [if_neg c6] at H;exact absurd H (by simp)
  ·replace c4 := Bool.eq_false_iff.mpr c4;subst c4;(have H1 : (hoggetref04_Number.j0 k a0 true) = some r := by rw [if_neg (show ¬ (false = true) by decide)] at H; exact H);clear H;have H := H1;clear H1;have H' := Aside0.mk H;clear H;go_wp2_with (first | ((with_reducible refine gate_callee (f := 84) rfl ?_); refine goesL_ (some 6) rfl rfl Tryz.func84 (by kernel_rfl) rfl #[.string a0] rfl sM ?_; (with_reducible refine (hoggetref04_digits.calls k a0 false _ A3.out).mono ?_); rintro e w' ⟨rfl, ⟨nd, rfl⟩⟩; refine ⟨_, rfl, ?_⟩));go_meet;(case rel => exact ⟨_, (true), sE, H', ⟨by first | omega | exact Nat.le_refl _⟩, sD⟩)
 case rest =>
  clear HC2;(try clear p2);(try clear c4);(try clear c5);(try clear c5b0);(try clear c5b1);(try clear c6);(try clear c6b0);(try clear c6b1);(try clear c7);(try clear p7);(try clear q7);(try clear hx7);(try clear qi7);(try clear c8);(try clear c8b0);(try clear c8b1);(try clear p7);(try clear q7);obtain ⟨kq, x22_1, rfl, HA, HJ1, ⟨mc1, rfl⟩⟩ := hcut
  cases kq with
  | zero => exact absurd HA.out (by simp [hoggetref04_Number.j0])
  | succ kj1 =>
   have H := HA.out;clear HA;simp only [hoggetref04_Number.j0] at H;by_cases c9 : x22_1 = true
   ·subst c9;(have H1 : (some (-1)) = some r := by rw [if_pos rfl] at H; exact H);clear H;have H := H1;clear H1;obtain rfl := Option.some.inj H;go_wp2;go_ret;exact ⟨sE, sD⟩
   ·replace c9 := Bool.eq_false_iff.mpr c9;subst c9;(have H1 : (hoggetref04_Number.l0 kj1 a0 0 0) = some r := by rw [if_neg (show ¬ (false = true) by decide)] at H; exact H);clear H;have H := H1;clear H1;have H' := Aside0.mk H;clear H;go_wp2;go_loopg [3, 4] kj1 (fun kq v3 v4 w' => ∃ (x3_2 : Int) (x4_2 : Int), v3 = .int .i64 x3_2 ∧ v4 = .int .i64 x4_2 ∧ Aside0 (hoggetref04_Number.l0 kq a0 x3_2 x4_2 = some r) ∧ Aside0 (kq ≤ kj1) ∧ Drawn0 w w');(case atStart => exact ⟨(0), (0), sE, sE, H', ⟨Nat.le_refl _⟩, sD⟩)
    case round =>
     clear H';(try clear c1);(try clear p2);(try clear c4);(try clear c5);(try clear c5b0);(try clear c5b1);(try clear c6);(try clear c6b0);(try clear c6b1);(try clear c7);(try clear p7);(try clear q7);(try clear hx7);(try clear qi7);(try clear c8);(try clear c8b0);(try clear c8b1);(try clear c9);(try clear p2);(try clear p7);(try clear q7);obtain ⟨x3_2, x4_2, rfl, rfl, HA, HK2, ⟨m2, rfl⟩⟩ := hrel
     cases gk with
     | zero => exact absurd HA.out (by simp [hoggetref04_Number.l0])
     | succ k2 =>
      have H := HA.out;clear HA;simp only [hoggetref04_Number.l0] at H;by_cases c10 : x4_2 < (a0.size : Int)
      ·rw [if_pos c10] at H;have c10b0 := decide_eq_true c10;clear c10;by_cases c11 : 0 ≤ x4_2
       ·rw [if_pos c11] at H;have c11b0 := decide_eq_true c11;clear c11;have H' := Aside0.mk H;clear H;have p12 : 0 ≤ (x4_2 : Int) := of_decide_eq_true sA;have q12 : x4_2 < (a0.size : Int) := of_decide_eq_true sA;have hx12 := bt_at a0 x4_2;replace p12 := eq_true p12;replace q12 := eq_true q12;go_wp2;(go_roundg k2);(case measure => have := HJ1.out; have := HK2.out; omega);(case rel => exact ⟨(wrap64 ((wrap64 (10 * x3_2)) + (((bt a0 x4_2) - 48) % 256))), (wrap64 (x4_2 + 1)), sE, sE, H', ⟨by have := HJ1.out; have := HK2.out; omega⟩, sD⟩)
       ·rw [if_neg c11] at H;exact absurd H (by simp)
      ·rw [if_neg c10] at H;have c10b0 := decide_eq_false c10;clear c10;obtain rfl := Option.some.inj H;go_wp2;go_ret;exact ⟨sE, sD⟩
def hoggetref04_may.f (a0 : Int) : Option (Bool) := if a0 ≥ 0 then (some (decide (a0 ≤ 999999))) else (some false)
theorem hoggetref04_may.calls (a0 : Int) (r : Bool) (w : World) (h : hoggetref04_may.f a0 = some r) :
 Calls Tryz.prog 61 #[.int .i64 a0] w fun e w' => e = .returned (.bool r) ∧ Drawn0 w w' := by
 have H : (if a0 ≥ 0 then (some (decide (a0 ≤ 999999))) else (some false)) = some r := h;clear h;by_cases c2 : a0 ≥ 0
 ·rw [if_pos c2] at H;have c2b0 := decide_eq_true c2;clear c2;obtain rfl := Option.some.inj H;(go_enter Tryz.func61, Tryz.ntmps61);go_wp2;go_ret;exact ⟨sE, sD⟩
 ·rw [if_neg c2] at H;have c2b0 := decide_eq_false c2;clear c2;obtain rfl := Option.some.inj H;(go_enter Tryz.func61, Tryz.ntmps61);go_wp2;go_ret;exact ⟨sE, sD⟩
mutual
def hoggetref04_part.j0 : Nat → ByteArray → Bool → Option (Bool)
  | 0, _, _ => none
  | k + 1, x0, x12 => if x12 = true then (some false) else (hoggetref04_part.l0 k x0 0)
def hoggetref04_part.l0 : Nat → ByteArray → Int → Option (Bool)
  | 0, _, _ => none
  | k + 1, x0, x3 => if x3 < (x0.size : Int) then (if 0 ≤ x3 then (if (bt x0 x3) < 97 then (if (bt x0 x3) < 65 then (if (bt x0 x3) < 48 then (if (bt x0 x3) = 45 then (hoggetref04_part.l0 k x0 (wrap64 (x3 + 1))) else (some false)) else (if (bt x0 x3) > 57 then (if (bt x0 x3) = 45 then (hoggetref04_part.l0 k x0 (wrap64 (x3 + 1))) else (some false)) else (hoggetref04_part.l0 k x0 (wrap64 (x3 + 1))))) else (if (bt x0 x3) > 90 then (if (bt x0 x3) < 48 then (if (bt x0 x3) = 45 then (hoggetref04_part.l0 k x0 (wrap64 (x3 + 1))) else (some false)) else (if (bt x0 x3) > 57 then (if (bt x0 x3) = 45 then (hoggetref04_part.l0 k x0 (wrap64 (x3 + 1))) else (some false)) else (hoggetref04_part.l0 k x0 (wrap64 (x3 + 1))))) else (hoggetref04_part.l0 k x0 (wrap64 (x3 + 1))))) else (if (bt x0 x3) > 122 then (if (bt x0 x3) < 65 then (if (bt x0 x3) < 48 then (if (bt x0 x3) = 45 then (hoggetref04_part.l0 k x0 (wrap64 (x3 + 1))) else (some false)) else (if (bt x0 x3) > 57 then (if (bt x0 x3) = 45 then (hoggetref04_part.l0 k x0 (wrap64 (x3 + 1))) else (some false)) else (hoggetref04_part.l0 k x0 (wrap64 (x3 + 1))))) else (if (bt x0 x3) > 90 then (if (bt x0 x3) < 48 then (if (bt x0 x3) = 45 then (hoggetref04_part.l0 k x0 (wrap64 (x3 + 1))) else (some false)) else (if (bt x0 x3) > 57 then (if (bt x0 x3) = 45 then (hoggetref04_part.l0 k x0 (wrap64 (x3 + 1))) else (some false)) else (hoggetref04_part.l0 k x0 (wrap64 (x3 + 1))))) else (hoggetref04_part.l0 k x0 (wrap64 (x3 + 1))))) else (hoggetref04_part.l0 k x0 (wrap64 (x3 + 1))))) else (none)) else ((hoggetref04_digits.f k x0).bind fun t215 => (if t215 = true then ((hoggetref04_Number.f k x0).bind fun t216 => (some (decide (t216 ≥ 0)))) else (some true)))
end
def hoggetref04_part.f (k : Nat) (a0 : ByteArray) : Option (Bool) := if (a0.size : Int) < 1 then (hoggetref04_part.j0 k a0 true) else (hoggetref04_part.j0 k a0 (decide ((a0.size : Int) > 10)))
theorem hoggetref04_part.calls (k : Nat) (a0 : ByteArray) (r : Bool) (w : World) (h : hoggetref04_part.f k a0 = some r) :
 Calls Tryz.prog 62 #[.string a0] w fun e w' => e = .returned (.bool r) ∧ Drawn0 w w' := by
 have H : (if (a0.size : Int) < 1 then (hoggetref04_part.j0 k a0 true) else (hoggetref04_part.j0 k a0 (decide ((a0.size : Int) > 10)))) = some r := h;clear h;have HC2 := Aside0.mk H;clear H;(go_enter Tryz.func62, Tryz.ntmps62);(go_upto_region 1 with (fail));go_cut [12] (fun v12 wc => ∃ (kq : Nat) (x12_1 : Bool), v12 = .bool x12_1 ∧ Aside0 (hoggetref04_part.j0 kq a0 x12_1 = some r) ∧ Aside0 (kq ≤ k) ∧ Drawn0 w wc)
 case first =>
  have H := HC2.out;clear HC2;by_cases c3 : (a0.size : Int) < 1
  ·rw [if_pos c3] at H;have c3b0 := decide_eq_true c3;have c3b1 : decide (a0.size < 1) = true := decide_eq_true (by omega);clear c3;(first | rw [c3b0] | (simp only [i64_w, i32_w]; rw [c3b0]) | skip);have H' := Aside0.mk H;clear H;go_wp2;go_meet;(case rel => exact ⟨_, (true), sE, H', ⟨by first | omega | exact Nat.le_refl _⟩, sD⟩)
  ·rw [if_neg c3] at H;have c3b0 := decide_eq_false c3;have c3b1 : decide (a0.size < 1) = false := decide_eq_false (by omega);clear c3;(first | rw [c3b0] | (simp only [i64_w, i32_w]; rw [c3b0]) | skip);have H' := Aside0.mk H;clear H;go_wp2;go_meet;(case rel => exact ⟨_, (decide ((a0.size : Int) > 10)), sE, H', ⟨by first | omega | exact Nat.le_refl _⟩, sD⟩)
 case rest =>
  clear HC2;(try clear p2);(try clear c3);(try clear c3b0);(try clear c3b1);obtain ⟨kq, x12_1, rfl, HA, HJ1, ⟨mc1, rfl⟩⟩ := hcut
  cases kq with
  | zero => exact absurd HA.out (by simp [hoggetref04_part.j0])
  | succ kj1 =>
   have H := HA.out;clear HA;simp only [hoggetref04_part.j0] at H;by_cases c4 : x12_1 = true
   ·subst c4;(have H1 : (some false) = some r := by rw [if_pos rfl] at H; exact H);clear H;have H := H1;clear H1;obtain rfl := Option.some.inj H;go_wp2;go_ret;exact ⟨sE, sD⟩
   ·replace c4 := Bool.eq_false_iff.mpr c4;subst c4;(have H1 : (hoggetref04_part.l0 kj1 a0 0) = some r := by rw [if_neg (show ¬ (false = true) by decide)] at H; exact H);clear H;have H := H1;clear H1;have H' := Aside0.mk H;clear H;go_wp2;go_loopg [3] kj1 (fun kq v3 w' => ∃ (x3_2 : Int), v3 = .int .i64 x3_2 ∧ Aside0 (hoggetref04_part.l0 kq a0 x3_2 = some r) ∧ Aside0 (kq ≤ kj1) ∧ Drawn0 w w');(case atStart => exact ⟨(0), sE, H', ⟨Nat.le_refl _⟩, sD⟩)
    case round =>
     clear H';(try clear c1);(try clear p2);(try clear c3);(try clear c3b0);(try clear c3b1);(try clear c4);(try clear p2);obtain ⟨x3_2, rfl, HA, HK2, ⟨m2, rfl⟩⟩ := hrel
     cases gk with
     | zero => exact absurd HA.out (by simp [hoggetref04_part.l0])
     | succ k2 =>
      have H := HA.out;clear HA;simp only [hoggetref04_part.l0] at H;by_cases c5 : x3_2 < (a0.size : Int)
      ·rw [if_pos c5] at H;have c5b0 := decide_eq_true c5;clear c5;by_cases c6 : 0 ≤ x3_2
       ·rw [if_pos c6] at H;have c6b0 := decide_eq_true c6;clear c6;by_cases c8 : (bt a0 x3_2) < 97
        ·rw [if_pos c8] at H;have c8b0 := decide_eq_true c8;clear c8;by_cases c9 : (bt a0 x3_2) < 65
         ·rw [if_pos c9] at H;have c9b0 := decide_eq_true c9;clear c9;by_cases c10 : (bt a0 x3_2) < 48
          ·rw [if_pos c10] at H;have c10b0 := decide_eq_true c10;clear c10;by_cases c11 : (bt a0 x3_2) = 45
           ·rw [if_pos c11] at H;have c11b0 := beq_iff_eq.mpr c11;have c11b1 := bne_eq_false_iff_eq.mpr c11;clear c11;have H' := Aside0.mk H;clear H;have p7 : 0 ≤ (x3_2 : Int) := of_decide_eq_true sA;have q7 : x3_2 < (a0.size : Int) := of_decide_eq_true sA;have hx7 := bt_at a0 x3_2;replace p7 := eq_true p7;replace q7 := eq_true q7;go_wp2;(go_roundg k2);(case measure => have := HJ1.out; have := HK2.out; omega);(case rel => exact ⟨(wrap64 (x3_2 + 1)), sE, H', ⟨by have := HJ1.out; have := HK2.out; omega⟩, sD⟩)
           ·rw [if_neg c11] at H;have c11b0 := beq_eq_false_iff_ne.mpr c11;have c11b1 := bne_iff_ne.mpr c11;obtain rfl := Option.some.inj H;have p7 : 0 ≤ (x3_2 : Int) := of_decide_eq_true sA;have q7 : x3_2 < (a0.size : Int) := of_decide_eq_true sA;have hx7 := bt_at a0 x3_2;replace p7 := eq_true p7;replace q7 := eq_true q7;go_wp2;go_ret;exact ⟨sE, sD⟩
          ·rw [if_neg c10] at H;have c10b0 := decide_eq_false c10;clear c10;by_cases c12 : (bt a0 x3_2) > 57
           ·rw [if_pos c12] at H;have c12b0 := decide_eq_true c12;clear c12;by_cases c13 : (bt a0 x3_2) = 45
            ·rw [if_pos c13] at H;have c13b0 := beq_iff_eq.mpr c13;have c13b1 := bne_eq_false_iff_eq.mpr c13;clear c13;have H' := Aside0.mk H;clear H;have p7 : 0 ≤ (x3_2 : Int) := of_decide_eq_true sA;have q7 : x3_2 < (a0.size : Int) := of_decide_eq_true sA;have hx7 := bt_at a0 x3_2;replace p7 := eq_true p7;replace q7 := eq_true q7;go_wp2;(go_roundg k2);(case measure => have := HJ1.out; have := HK2.out; omega);(case rel => exact ⟨(wrap64 (x3_2 + 1)), sE, H', ⟨by have := HJ1.out; have := HK2.out; omega⟩, sD⟩)
            ·rw [if_neg c13] at H;have c13b0 := beq_eq_false_iff_ne.mpr c13;have c13b1 := bne_iff_ne.mpr c13;obtain rfl := Option.some.inj H;have p7 : 0 ≤ (x3_2 : Int) := of_decide_eq_true sA;have q7 : x3_2 < (a0.size : Int) := of_decide_eq_true sA;have hx7 := bt_at a0 x3_2;replace p7 := eq_true p7;replace q7 := eq_true q7;go_wp2;go_ret;exact ⟨sE, sD⟩
           ·rw [if_neg c12] at H;have c12b0 := decide_eq_false c12;clear c12;have H' := Aside0.mk H;clear H;have p7 : 0 ≤ (x3_2 : Int) := of_decide_eq_true sA;have q7 : x3_2 < (a0.size : Int) := of_decide_eq_true sA;have hx7 := bt_at a0 x3_2;replace p7 := eq_true p7;replace q7 := eq_true q7;go_wp2;(go_roundg k2);(case measure => have := HJ1.out; have := HK2.out; omega);(case rel => exact ⟨(wrap64 (x3_2 + 1)), sE, H', ⟨by have := HJ1.out; have := HK2.out; omega⟩, sD⟩)
         ·rw [if_neg c9] at H;have c9b0 := decide_eq_false c9;clear c9;by_cases c14 : (bt a0 x3_2) > 90
          ·rw [if_pos c14] at H;have c14b0 := decide_eq_true c14;clear c14;by_cases c15 : (bt a0 x3_2) < 48
           ·rw [if_pos c15] at H;have c15b0 := decide_eq_true c15;clear c15;by_cases c16 : (bt a0 x3_2) = 45
            ·rw [if_pos c16] at H;have c16b0 := beq_iff_eq.mpr c16;have c16b1 := bne_eq_false_iff_eq.mpr c16;clear c16;have H' := Aside0.mk H;clear H;have p7 : 0 ≤ (x3_2 : Int) := of_decide_eq_true sA;have q7 : x3_2 < (a0.size : Int) := of_decide_eq_true sA;have hx7 := bt_at a0 x3_2;replace p7 := eq_true p7;replace q7 := eq_true q7;go_wp2;(go_roundg k2);(case measure => have := HJ1.out; have := HK2.out; omega);(case rel => exact ⟨(wrap64 (x3_2 + 1)), sE, H', ⟨by have := HJ1.out; have := HK2.out; omega⟩, sD⟩)
            ·rw [if_neg c16] at H;have c16b0 := beq_eq_false_iff_ne.mpr c16;have c16b1 := bne_iff_ne.mpr c16;obtain rfl := Option.some.inj H;have p7 : 0 ≤ (x3_2 : Int) := of_decide_eq_true sA;have q7 : x3_2 < (a0.size : Int) := of_decide_eq_true sA;have hx7 := bt_at a0 x3_2;replace p7 := eq_true p7;replace q7 := eq_true q7;go_wp2;go_ret;exact ⟨sE, sD⟩
           ·rw [if_neg c15] at H;have c15b0 := decide_eq_false c15;clear c15;by_cases c17 : (bt a0 x3_2) > 57
            ·rw [if_pos c17] at H;have c17b0 := decide_eq_true c17;clear c17;by_cases c18 : (bt a0 x3_2) = 45
             ·rw [if_pos c18] at H;have c18b0 := beq_iff_eq.mpr c18;have c18b1 := bne_eq_false_iff_eq.mpr c18;clear c18;have H' := Aside0.mk H;clear H;have p7 : 0 ≤ (x3_2 : Int) := of_decide_eq_true sA;have q7 : x3_2 < (a0.size : Int) := of_decide_eq_true sA;have hx7 := bt_at a0 x3_2;replace p7 := eq_true p7;replace q7 := eq_true q7;go_wp2;(go_roundg k2);(case measure => have := HJ1.out; have := HK2.out; omega);(case rel => exact ⟨(wrap64 (x3_2 + 1)), sE, H', ⟨by have := HJ1.out; have := HK2.out; omega⟩, sD⟩)
             ·rw [if_neg c18] at H;have c18b0 := beq_eq_false_iff_ne.mpr c18;have c18b1 := bne_iff_ne.mpr c18;obtain rfl := Option.some.inj H;have p7 : 0 ≤ (x3_2 : Int) := of_decide_eq_true sA;have q7 : x3_2 < (a0.size : Int) := of_decide_eq_true sA;have hx7 := bt_at a0 x3_2;replace p7 := eq_true p7;replace q7 := eq_true q7;go_wp2;go_ret;exact ⟨sE, sD⟩
            ·rw [if_neg c17] at H;have c17b0 := decide_eq_false c17;clear c17;have H' := Aside0.mk H;clear H;have p7 : 0 ≤ (x3_2 : Int) := of_decide_eq_true sA;have q7 : x3_2 < (a0.size : Int) := of_decide_eq_true sA;have hx7 := bt_at a0 x3_2;replace p7 := eq_true p7;replace q7 := eq_true q7;go_wp2;(go_roundg k2);(case measure => have := HJ1.out; have := HK2.out; omega);(case rel => exact ⟨(wrap64 (x3_2 + 1)), sE, H', ⟨by have := HJ1.out; have := HK2.out; omega⟩, sD⟩)
          ·rw [if_neg c14] at H;have c14b0 := decide_eq_false c14;clear c14;have H' := Aside0.mk H;clear H;have p7 : 0 ≤ (x3_2 : Int) := of_decide_eq_true sA;have q7 : x3_2 < (a0.size : Int) := of_decide_eq_true sA;have hx7 := bt_at a0 x3_2;replace p7 := eq_true p7;replace q7 := eq_true q7;go_wp2;(go_roundg k2);(case measure => have := HJ1.out; have := HK2.out; omega);(case rel => exact ⟨(wrap64 (x3_2 + 1)), sE, H', ⟨by have := HJ1.out; have := HK2.out; omega⟩, sD⟩)
        ·rw [if_neg c8] at H;have c8b0 := decide_eq_false c8;clear c8;by_cases c19 : (bt a0 x3_2) > 122
         ·rw [if_pos c19] at H;have c19b0 := decide_eq_true c19;clear c19;by_cases c20 : (bt a0 x3_2) < 65
          ·rw [if_pos c20] at H;have c20b0 := decide_eq_true c20;clear c20;by_cases c21 : (bt a0 x3_2) < 48
           ·rw [if_pos c21] at H;have c21b0 := decide_eq_true c21;clear c21;by_cases c22 : (bt a0 x3_2) = 45
            ·rw [if_pos c22] at H;have c22b0 := beq_iff_eq.mpr c22;have c22b1 := bne_eq_false_iff_eq.mpr c22;clear c22;have H' := Aside0.mk H;clear H;have p7 : 0 ≤ (x3_2 : Int) := of_decide_eq_true sA;have q7 : x3_2 < (a0.size : Int) := of_decide_eq_true sA;have hx7 := bt_at a0 x3_2;replace p7 := eq_true p7;replace q7 := eq_true q7;go_wp2;(go_roundg k2);(case measure => have := HJ1.out; have := HK2.out; omega);(case rel => exact ⟨(wrap64 (x3_2 + 1)), sE, H', ⟨by have := HJ1.out; have := HK2.out; omega⟩, sD⟩)
            ·rw [if_neg c22] at H;have c22b0 := beq_eq_false_iff_ne.mpr c22;have c22b1 := bne_iff_ne.mpr c22;obtain rfl := Option.some.inj H;have p7 : 0 ≤ (x3_2 : Int) := of_decide_eq_true sA;have q7 : x3_2 < (a0.size : Int) := of_decide_eq_true sA;have hx7 := bt_at a0 x3_2;replace p7 := eq_true p7;replace q7 := eq_true q7;go_wp2;go_ret;exact ⟨sE, sD⟩
           ·rw [if_neg c21] at H;have c21b0 := decide_eq_false c21;clear c21;by_cases c23 : (bt a0 x3_2) > 57
            ·rw [if_pos c23] at H;have c23b0 := decide_eq_true c23;clear c23;by_cases c24 : (bt a0 x3_2) = 45
             ·rw [if_pos c24] at H;have c24b0 := beq_iff_eq.mpr c24;have c24b1 := bne_eq_false_iff_eq.mpr c24;clear c24;have H' := Aside0.mk H;clear H;have p7 : 0 ≤ (x3_2 : Int) := of_decide_eq_true sA;have q7 : x3_2 < (a0.size : Int) := of_decide_eq_true sA;have hx7 := bt_at a0 x3_2;replace p7 := eq_true p7;replace q7 := eq_true q7;go_wp2;(go_roundg k2);(case measure => have := HJ1.out; have := HK2.out; omega);(case rel => exact ⟨(wrap64 (x3_2 + 1)), sE, H', ⟨by have := HJ1.out; have := HK2.out; omega⟩, sD⟩)
             ·rw [if_neg c24] at H;have c24b0 := beq_eq_false_iff_ne.mpr c24;have c24b1 := bne_iff_ne.mpr c24;obtain rfl := Option.some.inj H;have p7 : 0 ≤ (x3_2 : Int) := of_decide_eq_true sA;have q7 : x3_2 < (a0.size : Int) := of_decide_eq_true sA;have hx7 := bt_at a0 x3_2;replace p7 := eq_true p7;replace q7 := eq_true q7;go_wp2;go_ret;exact ⟨sE, sD⟩
            ·rw [if_neg c23] at H;have c23b0 := decide_eq_false c23;clear c23;have H' := Aside0.mk H;clear H;have p7 : 0 ≤ (x3_2 : Int) := of_decide_eq_true sA;have q7 : x3_2 < (a0.size : Int) := of_decide_eq_true sA;have hx7 := bt_at a0 x3_2;replace p7 := eq_true p7;replace q7 := eq_true q7;go_wp2;(go_roundg k2);(case measure => have := HJ1.out; have := HK2.out; omega);(case rel => exact ⟨(wrap64 (x3_2 + 1)), sE, H', ⟨by have := HJ1.out; have := HK2.out; omega⟩, sD⟩)
          ·rw [if_neg c20] at H;have c20b0 := decide_eq_false c20;clear c20;by_cases c25 : (bt a0 x3_2) > 90
           ·rw [if_pos c25] at H;have c25b0 := decide_eq_true c25;clear c25;by_cases c26 : (bt a0 x3_2) < 48
            ·rw [if_pos c26] at H;have c26b0 := decide_eq_true c26;clear c26;by_cases c27 : (bt a0 x3_2) = 45
             ·rw [if_pos c27] at H;have c27b0 := beq_iff_eq.mpr c27;have c27b1 := bne_eq_false_iff_eq.mpr c27;clear c27;have H' := Aside0.mk H;clear H;have p7 : 0 ≤ (x3_2 : Int) := of_decide_eq_true sA;have q7 : x3_2 < (a0.size : Int) := of_decide_eq_true sA;have hx7 := bt_at a0 x3_2;replace p7 := eq_true p7;replace q7 := eq_true q7;go_wp2;(go_roundg k2);(case measure => have := HJ1.out; have := HK2.out; omega);(case rel => exact ⟨(wrap64 (x3_2 + 1)), sE, H', ⟨by have := HJ1.out; have := HK2.out; omega⟩, sD⟩)
             ·rw [if_neg c27] at H;have c27b0 := beq_eq_false_iff_ne.mpr c27;have c27b1 := bne_iff_ne.mpr c27;obtain rfl := Option.some.inj H;have p7 : 0 ≤ (x3_2 : Int) := of_decide_eq_true sA;have q7 : x3_2 < (a0.size : Int) := of_decide_eq_true sA;have hx7 := bt_at a0 x3_2;replace p7 := eq_true p7;replace q7 := eq_true q7;go_wp2;go_ret;exact ⟨sE, sD⟩
            ·rw [if_neg c26] at H;have c26b0 := decide_eq_false c26;clear c26;by_cases c28 : (bt a0 x3_2) > 57
             ·rw [if_pos c28] at H;have c28b0 := decide_eq_true c28;clear c28;by_cases c29 : (bt a0 x3_2) = 45
              ·rw [if_pos c29] at H;have c29b0 := beq_iff_eq.mpr c29;have c29b1 := bne_eq_false_iff_eq.mpr c29;clear c29;have H' := Aside0.mk H;clear H;have p7 : 0 ≤ (x3_2 : Int) := of_decide_eq_true sA;have q7 : x3_2 < (a0.size : Int) := of_decide_eq_true sA;have hx7 := bt_at a0 x3_2;replace p7 := eq_true p7;replace q7 := eq_true q7;go_wp2;(go_roundg k2);(case measure => have := HJ1.out; have := HK2.out; omega);(case rel => exact ⟨(wrap64 (x3_2 + 1)), sE, H', ⟨by have := HJ1.out; have := HK2.out; omega⟩, sD⟩)
              ·rw [if_neg c29] at H;have c29b0 := beq_eq_false_iff_ne.mpr c29;have c29b1 := bne_iff_ne.mpr c29;obtain rfl := Option.some.inj H;have p7 : 0 ≤ (x3_2 : Int) := of_decide_eq_true sA;have q7 : x3_2 < (a0.size : Int) := of_decide_eq_true sA;have hx7 := bt_at a0 x3_2;replace p7 := eq_true p7;replace q7 := eq_true q7;go_wp2;go_ret;exact ⟨sE, sD⟩
             ·rw [if_neg c28] at H;have c28b0 := decide_eq_false c28;clear c28;have H' := Aside0.mk H;clear H;have p7 : 0 ≤ (x3_2 : Int) := of_decide_eq_true sA;have q7 : x3_2 < (a0.size : Int) := of_decide_eq_true sA;have hx7 := bt_at a0 x3_2;replace p7 := eq_true p7;replace q7 := eq_true q7;go_wp2;(go_roundg k2);(case measure => have := HJ1.out; have := HK2.out; omega);(case rel => exact ⟨(wrap64 (x3_2 + 1)), sE, H', ⟨by have := HJ1.out; have := HK2.out; omega⟩, sD⟩)
           ·rw [if_neg c25] at H;have c25b0 := decide_eq_false c25;clear c25;have H' := Aside0.mk H;clear H;have p7 : 0 ≤ (x3_2 : Int) := of_decide_eq_true sA;have q7 : x3_2 < (a0.size : Int) := of_decide_eq_true sA;have hx7 := bt_at a0 x3_2;replace p7 := eq_true p7;replace q7 := eq_true q7;go_wp2;(go_roundg k2);(case measure => have := HJ1.out; have := HK2.out; omega);(case rel => exact ⟨(wrap64 (x3_2 + 1)), sE, H', ⟨by have := HJ1.out; have := HK2.out; omega⟩, sD⟩)
         ·rw [if_neg c19] at H;have c19b0 := decide_eq_false c19;clear c19;have H' := Aside0.mk H;clear H;have p7 : 0 ≤ (x3_2 : Int) := of_decide_eq_true sA;have q7 : x3_2 < (a0.size : Int) := of_decide_eq_true sA;have hx7 := bt_at a0 x3_2;replace p7 := eq_true p7;replace q7 := eq_true q7;go_wp2;(go_roundg k2);(case measure => have := HJ1.out; have := HK2.out; omega);(case rel => exact ⟨(wrap64 (x3_2 + 1)), sE, H', ⟨by have := HJ1.out; have := HK2.out; omega⟩, sD⟩)
       ·rw [if_neg c6] at H;exact absurd H (by simp)
      ·rw [if_neg c5] at H;have c5b0 := decide_eq_false c5;clear c5;replace H := Option.bind_eq_some_iff.mp H;obtain ⟨t215, A300, H⟩ := H;have A30 := Aside0.mk A300;clear A300;by_cases c31 : t215 = true
       ·subst c31;(have H1 : ((hoggetref04_Number.f k2 a0).bind fun t216 => (some (decide (t216 ≥ 0)))) = some r := by rw [if_pos rfl] at H; exact H);clear H;have H := H1;clear H1;replace H := Option.bind_eq_some_iff.mp H;obtain ⟨t216, A320, H⟩ := H;have A32 := Aside0.mk A320;clear A320;obtain rfl := Option.some.inj H;go_wp2_with (first | ((with_reducible refine gate_callee (f := 84) rfl ?_); refine goesL_ (some 49) rfl rfl Tryz.func84 (by kernel_rfl) rfl #[.string a0] rfl sM ?_; (with_reducible refine (hoggetref04_digits.calls k2 a0 true _ A30.out).mono ?_); rintro e w' ⟨rfl, ⟨nd, rfl⟩⟩; refine ⟨_, rfl, ?_⟩) | (go_at_call 76; (with_reducible refine (hoggetref04_Number.calls k2 a0 t216 _ A32.out).mono ?_); rintro e w' ⟨rfl, ⟨nd, rfl⟩⟩));go_ret;exact ⟨sE, sD⟩
       ·replace c31 := Bool.eq_false_iff.mpr c31;subst c31;(have H1 : (some true) = some r := by rw [if_neg (show ¬ (false = true) by decide)] at H; exact H);clear H;have H := H1;clear H1;obtain rfl := Option.some.inj H;go_wp2_with (first | ((with_reducible refine gate_callee (f := 84) rfl ?_); refine goesL_ (some 49) rfl rfl Tryz.func84 (by kernel_rfl) rfl #[.string a0] rfl sM ?_; (with_reducible refine (hoggetref04_digits.calls k2 a0 false _ A30.out).mono ?_); rintro e w' ⟨rfl, ⟨nd, rfl⟩⟩; refine ⟨_, rfl, ?_⟩));go_ret;exact ⟨sE, sD⟩
mutual
def hoggetref04_Right.j0 : Nat → Bool → Int → Int → Int → ByteArray → Option (Bool)
  | 0, _, _, _, _, _ => none
  | k + 1, x20, x218000, x218001, x218002, x218003 => if x20 = true then (some false) else (if x218003.toList = ([] : List UInt8) then (some true) else ((hoggetref04_Cut.f k x218003 46).bind fun t221 => (hoggetref04_Right.l0 k t221 0)))
def hoggetref04_Right.l0 : Nat → List ByteArray → Int → Option (Bool)
  | 0, _, _ => none
  | k + 1, x3, x4 => if x4 < (x3.length : Int) then (if 0 ≤ x4 then ((hoggetref04_part.f k (rdOf ByteArray.empty x3 x4)).bind fun t225 => (if t225 = true then (hoggetref04_Right.l0 k x3 (wrap64 (x4 + 1))) else (some false))) else (none)) else (some (decide ((x3.length : Int) ≤ 5)))
end
def hoggetref04_Right.f (k : Nat) (a0_0 : Int) (a0_1 : Int) (a0_2 : Int) (a0_3 : ByteArray) : Option (Bool) := (hoggetref04_may.f a0_0).bind fun t218 => (if t218 = true then ((hoggetref04_may.f a0_1).bind fun t219 => (if t219 = true then ((hoggetref04_may.f a0_2).bind fun t220 => (hoggetref04_Right.j0 k (!t220) a0_0 a0_1 a0_2 a0_3)) else (hoggetref04_Right.j0 k true a0_0 a0_1 a0_2 a0_3))) else (hoggetref04_Right.j0 k true a0_0 a0_1 a0_2 a0_3))
theorem hoggetref04_Right.calls (k : Nat) (a0_0 : Int) (a0_1 : Int) (a0_2 : Int) (a0_3 : ByteArray) (r : Bool) (w : World) (h : hoggetref04_Right.f k a0_0 a0_1 a0_2 a0_3 = some r) :
 Calls Tryz.prog 37 #[.agg #[.int .i64 a0_0, .int .i64 a0_1, .int .i64 a0_2, .string a0_3]] w fun e w' => e = .returned (.bool r) ∧ Below w.heap.size w w' := by
 have hu35 := Tryz.underlying35;have HB := Aside0.mk (Below.refl w.heap.size w);have H : ((hoggetref04_may.f a0_0).bind fun t218 => (if t218 = true then ((hoggetref04_may.f a0_1).bind fun t219 => (if t219 = true then ((hoggetref04_may.f a0_2).bind fun t220 => (hoggetref04_Right.j0 k (!t220) a0_0 a0_1 a0_2 a0_3)) else (hoggetref04_Right.j0 k true a0_0 a0_1 a0_2 a0_3))) else (hoggetref04_Right.j0 k true a0_0 a0_1 a0_2 a0_3))) = some r := h;clear h;have HC2 := Aside0.mk H;clear H;(go_enter Tryz.func37, Tryz.ntmps37);(go_upto_region 1 with (first | ((with_reducible refine gate_dst (N := 1) rfl ?_); refine box_event ?hg (N := 1) ?hd (cs := #[.int .i64 a0_0, .int .i64 a0_1, .int .i64 a0_2, .string a0_3]) (t := 35) ?hr ?_; (case hd => rfl); (case hg => rfl); (case hr => first | (go_simp; done) | (go_simp; rfl)); intro gb217 hg w3 hbox hb; have n0_ := Aside0.mk (below_step (sL HB.out) hb); have n1_ := Aside0.mk (hbox); have n2_ := Aside0.mk ((by rw [hg]; exact (below_size (sL HB.out)) : w.heap.size ≤ gb217)); have n3_ := Aside0.mk ((by rw [hg]; exact (below_size (sL HB.out)) : w.heap.size ≤ gb217)); clear HB; have HB := n0_; have BK217 := n1_; have GW217 := n2_; have GE217 := n3_; clear n0_ n1_ n2_ n3_; clear hb hbox hg)));(try simp only [Act.put, List.setIfInBounds_toArray, List.set_cons_zero, List.set_cons_succ]);go_cut [20] (fun v20 wc => ∃ (kq : Nat) (x20_1 : Bool), v20 = .bool x20_1 ∧ Aside0 (hoggetref04_Right.j0 kq x20_1 a0_0 a0_1 a0_2 a0_3 = some r) ∧ Aside0 (kq ≤ k) ∧ Aside0 (wc.heap[gb217]? = some (.cells #[.int .i64 a0_0, .int .i64 a0_1, .int .i64 a0_2, .string a0_3] 35 (0, 0))) ∧ Aside0 (Below w.heap.size w wc))
 case first =>
  have H := HC2.out;clear HC2;replace H := Option.bind_eq_some_iff.mp H;obtain ⟨t218, A40, H⟩ := H;have A4 := Aside0.mk A40;clear A40;by_cases c5 : t218 = true
  ·subst c5;(have H1 : ((hoggetref04_may.f a0_1).bind fun t219 => (if t219 = true then ((hoggetref04_may.f a0_2).bind fun t220 => (hoggetref04_Right.j0 k (!t220) a0_0 a0_1 a0_2 a0_3)) else (hoggetref04_Right.j0 k true a0_0 a0_1 a0_2 a0_3))) = some r := by rw [if_pos rfl] at H; exact H);clear H;have H := H1;clear H1;replace H := Option.bind_eq_some_iff.mp H;obtain ⟨t219, A60, H⟩ := H;have A6 := Aside0.mk A60;clear A60;by_cases c7 : t219 = true
   ·subst c7;(have H1 : ((hoggetref04_may.f a0_2).bind fun t220 => (hoggetref04_Right.j0 k (!t220) a0_0 a0_1 a0_2 a0_3)) = some r := by rw [if_pos rfl] at H; exact H);clear H;have H := H1;clear H1;replace H := Option.bind_eq_some_iff.mp H;obtain ⟨t220, A80, H⟩ := H;have A8 := Aside0.mk A80;clear A80;have H' := Aside0.mk H;clear H;have hcz9_0 : w3.cell? ⟨gb217, 0, none⟩ = some (.int .i64 a0_0) := (blk_cell BK217.out 0).trans rfl;have hcz9_1 : w3.cell? ⟨gb217, 1, none⟩ = some (.int .i64 a0_1) := (blk_cell BK217.out 1).trans rfl;have hcz9_2 : w3.cell? ⟨gb217, 2, none⟩ = some (.int .i64 a0_2) := (blk_cell BK217.out 2).trans rfl;have hcz9_3 : w3.cell? ⟨gb217, 3, none⟩ = some (.string a0_3) := (blk_cell BK217.out 3).trans rfl;have hfz9_0 := blk_frozen BK217.out 0;have hfz9_1 := blk_frozen BK217.out 1;have hfz9_2 := blk_frozen BK217.out 2;have hfz9_3 := blk_frozen BK217.out 3;go_wp2_with (first | ((with_reducible refine gate_callee (f := 61) rfl ?_); refine goesL_ (some 7) rfl rfl Tryz.func61 (by kernel_rfl) rfl #[.int .i64 a0_0] rfl sM ?_; (with_reducible refine (hoggetref04_may.calls a0_0 true _ A4.out).mono ?_); rintro e w' ⟨rfl, ⟨nd, rfl⟩⟩; refine ⟨_, rfl, ?_⟩) | (go_at_call 61; (with_reducible refine (hoggetref04_may.calls a0_1 true _ A6.out).mono ?_); rintro e w' ⟨rfl, ⟨nd, rfl⟩⟩) | (go_at_call 61; (with_reducible refine (hoggetref04_may.calls a0_2 t220 _ A8.out).mono ?_); rintro e w' ⟨rfl, ⟨nd, rfl⟩⟩));go_meet;(case rel => exact ⟨_, (!t220), sE, H', ⟨by first | omega | exact Nat.le_refl _⟩, ⟨sB BK217.out⟩, ⟨sL1 HB.out GE217.out⟩⟩)
   ·replace c7 := Bool.eq_false_iff.mpr c7;subst c7;(have H1 : (hoggetref04_Right.j0 k true a0_0 a0_1 a0_2 a0_3) = some r := by rw [if_neg (show ¬ (false = true) by decide)] at H; exact H);clear H;have H := H1;clear H1;have H' := Aside0.mk H;clear H;have hcz10_0 : w3.cell? ⟨gb217, 0, none⟩ = some (.int .i64 a0_0) := (blk_cell BK217.out 0).trans rfl;have hcz10_1 : w3.cell? ⟨gb217, 1, none⟩ = some (.int .i64 a0_1) := (blk_cell BK217.out 1).trans rfl;have hcz10_2 : w3.cell? ⟨gb217, 2, none⟩ = some (.int .i64 a0_2) := (blk_cell BK217.out 2).trans rfl;have hcz10_3 : w3.cell? ⟨gb217, 3, none⟩ = some (.string a0_3) := (blk_cell BK217.out 3).trans rfl;have hfz10_0 := blk_frozen BK217.out 0;have hfz10_1 := blk_frozen BK217.out 1;have hfz10_2 := blk_frozen BK217.out 2;have hfz10_3 := blk_frozen BK217.out 3;go_wp2_with (first | ((with_reducible refine gate_callee (f := 61) rfl ?_); refine goesL_ (some 7) rfl rfl Tryz.func61 (by kernel_rfl) rfl #[.int .i64 a0_0] rfl sM ?_; (with_reducible refine (hoggetref04_may.calls a0_0 true _ A4.out).mono ?_); rintro e w' ⟨rfl, ⟨nd, rfl⟩⟩; refine ⟨_, rfl, ?_⟩) | (go_at_call 61; (with_reducible refine (hoggetref04_may.calls a0_1 false _ A6.out).mono ?_); rintro e w' ⟨rfl, ⟨nd, rfl⟩⟩));go_meet;(case rel => exact ⟨_, (true), sE, H', ⟨by first | omega | exact Nat.le_refl _⟩, ⟨sB BK217.out⟩, ⟨sL1 HB.out GE217.out⟩⟩)
  ·replace c5 := Bool.eq_false_iff.mpr c5;subst c5;(have H1 : (hoggetref04_Right.j0 k true a0_0 a0_1 a0_2 a0_3) = some r := by rw [if_neg (show ¬ (false = true) by decide)] at H; exact H);clear H;have H := H1;clear H1;have H' := Aside0.mk H;clear H;have hcz11_0 : w3.cell? ⟨gb217, 0, none⟩ = some (.int .i64 a0_0) := (blk_cell BK217.out 0).trans rfl;have hcz11_1 : w3.cell? ⟨gb217, 1, none⟩ = some (.int .i64 a0_1) := (blk_cell BK217.out 1).trans rfl;have hcz11_2 : w3.cell? ⟨gb217, 2, none⟩ = some (.int .i64 a0_2) := (blk_cell BK217.out 2).trans rfl;have hcz11_3 : w3.cell? ⟨gb217, 3, none⟩ = some (.string a0_3) := (blk_cell BK217.out 3).trans rfl;have hfz11_0 := blk_frozen BK217.out 0;have hfz11_1 := blk_frozen BK217.out 1;have hfz11_2 := blk_frozen BK217.out 2;have hfz11_3 := blk_frozen BK217.out 3;go_wp2_with (first | ((with_reducible refine gate_callee (f := 61) rfl ?_); refine goesL_ (some 7) rfl rfl Tryz.func61 (by kernel_rfl) rfl #[.int .i64 a0_0] rfl sM ?_; (with_reducible refine (hoggetref04_may.calls a0_0 false _ A4.out).mono ?_); rintro e w' ⟨rfl, ⟨nd, rfl⟩⟩; refine ⟨_, rfl, ?_⟩));go_meet;(case rel => exact ⟨_, (true), sE, H', ⟨by first | omega | exact Nat.le_refl _⟩, ⟨sB BK217.out⟩, ⟨sL1 HB.out GE217.out⟩⟩)
 case rest =>
  clear HC2;(try clear p2);(try clear c3);(try clear c5);(try clear c6);(try clear c7);(try clear hcz10_0);(try clear hcz10_1);(try clear hcz10_2);(try clear hcz10_3);(try clear hcz11_0);(try clear hcz11_1);(try clear hcz11_2);(try clear hcz11_3);(try clear hcz9_0);(try clear hcz9_1);(try clear hcz9_2);(try clear hcz9_3);(try clear hfz10_0);(try clear hfz10_1);(try clear hfz10_2);(try clear hfz10_3);(try clear hfz11_0);(try clear hfz11_1);(try clear hfz11_2);(try clear hfz11_3);(try clear hfz9_0);(try clear hfz9_1);(try clear hfz9_2);(try clear hfz9_3);obtain ⟨kq, x20_1, rfl, HA, HJ1, BK217, HB⟩ := hcut
  cases kq with
  | zero => exact absurd HA.out (by simp [hoggetref04_Right.j0])
  | succ kj1 =>
   have H := HA.out;clear HA;simp only [hoggetref04_Right.j0] at H;by_cases c12 : x20_1 = true
   ·subst c12;(have H1 : (some false) = some r := by rw [if_pos rfl] at H; exact H);clear H;have H := H1;clear H1;obtain rfl := Option.some.inj H;go_wp2;go_ret;exact ⟨by first | rfl | (simp [errW_none, errW_some] <;> rfl) | (simp [*, errW_none, errW_some] <;> rfl), sL1 HB.out GE217.out⟩
   ·replace c12 := Bool.eq_false_iff.mpr c12;subst c12;(have H1 : (if a0_3.toList = ([] : List UInt8) then (some true) else ((hoggetref04_Cut.f kj1 a0_3 46).bind fun t221 => (hoggetref04_Right.l0 kj1 t221 0))) = some r := by rw [if_neg (show ¬ (false = true) by decide)] at H; exact H);clear H;have H := H1;clear H1;by_cases c13 : a0_3.toList = ([] : List UInt8)
    ·rw [if_pos c13] at H;have c13b0 := beq_iff_eq.mpr c13;have c13b1 := bne_eq_false_iff_eq.mpr c13;clear c13;obtain rfl := Option.some.inj H;have hcz14_0 : wc.cell? ⟨gb217, 0, none⟩ = some (.int .i64 a0_0) := (blk_cell BK217.out 0).trans rfl;have hcz14_1 : wc.cell? ⟨gb217, 1, none⟩ = some (.int .i64 a0_1) := (blk_cell BK217.out 1).trans rfl;have hcz14_2 : wc.cell? ⟨gb217, 2, none⟩ = some (.int .i64 a0_2) := (blk_cell BK217.out 2).trans rfl;have hcz14_3 : wc.cell? ⟨gb217, 3, none⟩ = some (.string a0_3) := (blk_cell BK217.out 3).trans rfl;have hfz14_0 := blk_frozen BK217.out 0;have hfz14_1 := blk_frozen BK217.out 1;have hfz14_2 := blk_frozen BK217.out 2;have hfz14_3 := blk_frozen BK217.out 3;go_wp2;go_ret;exact ⟨by first | rfl | (simp [errW_none, errW_some] <;> rfl) | (simp [*, errW_none, errW_some] <;> rfl), sL1 HB.out GE217.out⟩
    ·rw [if_neg c13] at H;have c13b0 := beq_eq_false_iff_ne.mpr c13;have c13b1 := bne_iff_ne.mpr c13;replace H := Option.bind_eq_some_iff.mp H;obtain ⟨t221, A150, H⟩ := H;have A15 := Aside0.mk A150;clear A150;have H' := Aside0.mk H;clear H;have hcz16_0 : wc.cell? ⟨gb217, 0, none⟩ = some (.int .i64 a0_0) := (blk_cell BK217.out 0).trans rfl;have hcz16_1 : wc.cell? ⟨gb217, 1, none⟩ = some (.int .i64 a0_1) := (blk_cell BK217.out 1).trans rfl;have hcz16_2 : wc.cell? ⟨gb217, 2, none⟩ = some (.int .i64 a0_2) := (blk_cell BK217.out 2).trans rfl;have hcz16_3 : wc.cell? ⟨gb217, 3, none⟩ = some (.string a0_3) := (blk_cell BK217.out 3).trans rfl;have hfz16_0 := blk_frozen BK217.out 0;have hfz16_1 := blk_frozen BK217.out 1;have hfz16_2 := blk_frozen BK217.out 2;have hfz16_3 := blk_frozen BK217.out 3;go_wp2_with (first | ((with_reducible refine gate_callee (f := 46) rfl ?_); refine goesL_ (some 26) rfl rfl Tryz.func46 (by kernel_rfl) rfl #[.string a0_3, .int .u8 46] rfl sM ?_; (with_reducible refine (hoggetref04_Cut.calls kj1 a0_3 46 t221 _ A15.out).mono ?_); rintro e w17 ⟨v222, rfl, ho0, hb⟩; refine ⟨_, rfl, ?_⟩; have n0_ := Aside0.mk (Kd.R_lower ho0 (below_size (sL1 HB.out GE217.out))); have n1_ := Aside0.mk (blk_below (g := gb217) (o := .cells #[.int .i64 a0_0, .int .i64 a0_1, .int .i64 a0_2, .string a0_3] 35 (0, 0)) (sB BK217.out) hb); have n2_ := Aside0.mk (below_step (sL1 HB.out GE217.out) hb); clear BK217; clear HB; have HO223 := n0_; have BK217 := n1_; have HB := n2_; clear n0_ n1_ n2_; (try clear hb); (try clear hb2); (try clear hk); (try clear hi); (try clear ho0)));go_loopg [4] kj1 (fun kq v4 w' => ∃ (x4_2 : Int), v4 = .int .i64 x4_2 ∧ Aside0 (hoggetref04_Right.l0 kq t221 x4_2 = some r) ∧ Aside0 (kq ≤ kj1) ∧ Aside0 (Kd.R Kd.string 9 w' w.heap.size (fun _ => True) v222 t221) ∧ Aside0 (w'.heap[gb217]? = some (.cells #[.int .i64 a0_0, .int .i64 a0_1, .int .i64 a0_2, .string a0_3] 35 (0, 0))) ∧ Aside0 (Below w.heap.size w w'));(case atStart => exact ⟨(0), sE, H', ⟨Nat.le_refl _⟩, ⟨sR HO223.out⟩, ⟨sB BK217.out⟩, ⟨sL1 HB.out GE217.out⟩⟩)
     case round =>
      clear H';(try clear c1);(try clear p2);(try clear c3);(try clear c4);(try clear c5);(try clear c6);(try clear c7);(try clear c12);(try clear c13);(try clear c13b0);(try clear c13b1);(try clear hcz10_0);(try clear hcz10_1);(try clear hcz10_2);(try clear hcz10_3);(try clear hcz11_0);(try clear hcz11_1);(try clear hcz11_2);(try clear hcz11_3);(try clear hcz14_0);(try clear hcz14_1);(try clear hcz14_2);(try clear hcz14_3);(try clear hcz16_0);(try clear hcz16_1);(try clear hcz16_2);(try clear hcz16_3);(try clear hcz9_0);(try clear hcz9_1);(try clear hcz9_2);(try clear hcz9_3);(try clear hfz10_0);(try clear hfz10_1);(try clear hfz10_2);(try clear hfz10_3);(try clear hfz11_0);(try clear hfz11_1);(try clear hfz11_2);(try clear hfz11_3);(try clear hfz14_0);(try clear hfz14_1);(try clear hfz14_2);(try clear hfz14_3);(try clear hfz16_0);(try clear hfz16_1);(try clear hfz16_2);(try clear hfz16_3);(try clear hfz9_0);(try clear hfz9_1);(try clear hfz9_2);(try clear hfz9_3);(try clear p2);obtain ⟨x4_2, rfl, HA, HK2, HO_3, BK217, HB⟩ := hrel
      cases gk with
      | zero => exact absurd HA.out (by simp [hoggetref04_Right.l0])
      | succ k2 =>
       have H := HA.out;clear HA;simp only [hoggetref04_Right.l0] at H;by_cases c18 : x4_2 < (t221.length : Int)
       ·rw [if_pos c18] at H;have c18b0 := decide_eq_true c18;clear c18;by_cases c19 : 0 ≤ x4_2
        ·rw [if_pos c19] at H;have c19b0 := decide_eq_true c19;clear c19;replace H := Option.bind_eq_some_iff.mp H;obtain ⟨t225, A200, H⟩ := H;have A20 := Aside0.mk A200;clear A200;by_cases c21 : t225 = true
         ·subst c21;(have H1 : (hoggetref04_Right.l0 k2 t221 (wrap64 (x4_2 + 1))) = some r := by rw [if_pos rfl] at H; exact H);clear H;have H := H1;clear H1;have H' := Aside0.mk H;clear H;obtain ⟨Ao22, co22, eo22⟩ := Kd.R_slice HO_3.out;subst eo22;have p224 : 0 ≤ (x4_2 : Int) := of_decide_eq_true sA;have q224 : x4_2 < (t221.length : Int) := of_decide_eq_true sA;obtain ⟨ad224, e224, hx224_0⟩ := Kd.at_string (Kd.R_reads' HO_3.out).2.2 x4_2 p224 q224;cases e224;replace p224 := eq_true p224;replace q224 := eq_true q224;go_wp2_with (first | ((with_reducible refine gate_callee (f := 62) rfl ?_); refine goesL_ (some 37) rfl rfl Tryz.func62 (by kernel_rfl) rfl #[.string (rdOf ByteArray.empty t221 x4_2)] rfl sM ?_; (with_reducible refine (hoggetref04_part.calls k2 (rdOf ByteArray.empty t221 x4_2) true _ A20.out).mono ?_); rintro e w' ⟨rfl, ⟨nd, rfl⟩⟩; refine ⟨_, rfl, ?_⟩));(go_roundg k2);(case measure => have := HJ1.out; have := HK2.out; omega);(case rel => exact ⟨(wrap64 (x4_2 + 1)), sE, H', ⟨by have := HJ1.out; have := HK2.out; omega⟩, ⟨sR HO_3.out⟩, ⟨sB BK217.out⟩, ⟨sL1 HB.out GE217.out⟩⟩)
         ·replace c21 := Bool.eq_false_iff.mpr c21;subst c21;(have H1 : (some false) = some r := by rw [if_neg (show ¬ (false = true) by decide)] at H; exact H);clear H;have H := H1;clear H1;obtain rfl := Option.some.inj H;obtain ⟨Ao23, co23, eo23⟩ := Kd.R_slice HO_3.out;subst eo23;have p224 : 0 ≤ (x4_2 : Int) := of_decide_eq_true sA;have q224 : x4_2 < (t221.length : Int) := of_decide_eq_true sA;obtain ⟨ad224, e224, hx224_0⟩ := Kd.at_string (Kd.R_reads' HO_3.out).2.2 x4_2 p224 q224;cases e224;replace p224 := eq_true p224;replace q224 := eq_true q224;go_wp2_with (first | ((with_reducible refine gate_callee (f := 62) rfl ?_); refine goesL_ (some 37) rfl rfl Tryz.func62 (by kernel_rfl) rfl #[.string (rdOf ByteArray.empty t221 x4_2)] rfl sM ?_; (with_reducible refine (hoggetref04_part.calls k2 (rdOf ByteArray.empty t221 x4_2) false _ A20.out).mono ?_); rintro e w' ⟨rfl, ⟨nd, rfl⟩⟩; refine ⟨_, rfl, ?_⟩));go_ret;exact ⟨by first | rfl | (simp [errW_none, errW_some] <;> rfl) | (simp [*, errW_none, errW_some] <;> rfl), sL1 HB.out GE217.out⟩
        ·rw [if_neg c19] at H;exact absurd H (by simp)
       ·rw [if_neg c18] at H;have c18b0 := decide_eq_false c18;clear c18;obtain rfl := Option.some.inj H;obtain ⟨Ao24, co24, eo24⟩ := Kd.R_slice HO_3.out;subst eo24;go_wp2;go_ret;exact ⟨by first | rfl | (simp [errW_none, errW_some] <;> rfl) | (simp [*, errW_none, errW_some] <;> rfl), sL1 HB.out GE217.out⟩
def hoggetref04_Text.f : Nat → Int → Option (ByteArray)
  | 0, _ => none
  | k + 1, a0 => if a0 < 10 then (if 0 ≤ a0 then (if a0 ≤ (wrap64 (a0 + 1)) then (if (wrap64 (a0 + 1)) ≤ 10 then (some ((⟨#[48, 49, 50, 51, 52, 53, 54, 55, 56, 57]⟩ : ByteArray).extract (a0 : Int).toNat ((wrap64 (a0 + 1)) : Int).toNat)) else (none)) else (none)) else (none)) else ((hoggetref04_Text.f k (wrap64 (Int.tdiv a0 10))).bind fun t226 => ((hoggetref04_Text.f k (Int.tmod a0 10)).bind fun t227 => (if t226.size + t227.size ≤ 9223372036854775807 then (some (t226 ++ t227)) else (none))))
theorem hoggetref04_Text.calls (k : Nat) : ∀ (a0 : Int) (r : ByteArray) (w : World) (h : hoggetref04_Text.f k a0 = some r),
 Calls Tryz.prog 79 #[.int .i64 a0] w fun e w' => e = .returned (.string r) ∧ Drawn0 w w' := by
 induction k using Nat.strongRecOn with
 | _ k ih =>
 intro a0 r w h
 cases k with
 | zero => exact absurd h (by simp [hoggetref04_Text.f])
 | succ k =>
 simp only [hoggetref04_Text.f] at h;have H : (if a0 < 10 then (if 0 ≤ a0 then (if a0 ≤ (wrap64 (a0 + 1)) then (if (wrap64 (a0 + 1)) ≤ 10 then (some ((⟨#[48, 49, 50, 51, 52, 53, 54, 55, 56, 57]⟩ : ByteArray).extract (a0 : Int).toNat ((wrap64 (a0 + 1)) : Int).toNat)) else (none)) else (none)) else (none)) else ((hoggetref04_Text.f k (wrap64 (Int.tdiv a0 10))).bind fun t226 => ((hoggetref04_Text.f k (Int.tmod a0 10)).bind fun t227 => (if t226.size + t227.size ≤ 9223372036854775807 then (some (t226 ++ t227)) else (none))))) = some r := h;clear h;by_cases c2 : a0 < 10
 ·rw [if_pos c2] at H;have c2b0 := decide_eq_true c2;clear c2;by_cases c3 : 0 ≤ a0
  ·rw [if_pos c3] at H;have c3b0 := eq_true c3;have c3b1 := decide_eq_true c3;clear c3;by_cases c4 : a0 ≤ (wrap64 (a0 + 1))
   ·rw [if_pos c4] at H;have c4b0 := eq_true c4;have c4b1 := decide_eq_true c4;by_cases c5 : (wrap64 (a0 + 1)) ≤ 10
    ·rw [if_pos c5] at H;have c5b0 := eq_true c5;have c5b1 := decide_eq_true c5;obtain rfl := Option.some.inj H;(go_enter Tryz.func79, Tryz.ntmps79);go_wp2;go_ret;exact ⟨sE, sD⟩
    ·rw [if_neg c5] at H;exact absurd H (by simp)
   ·rw [if_neg c4] at H;exact absurd H (by simp)
  ·rw [if_neg c3] at H;exact absurd H (by simp)
 ·rw [if_neg c2] at H;have c2b0 := decide_eq_false c2;clear c2;replace H := Option.bind_eq_some_iff.mp H;obtain ⟨t226, A60, H⟩ := H;have A6 := Aside0.mk A60;clear A60;replace H := Option.bind_eq_some_iff.mp H;obtain ⟨t227, A70, H⟩ := H;have A7 := Aside0.mk A70;clear A70;by_cases c8 : t226.size + t227.size ≤ 9223372036854775807
  ·rw [if_pos c8] at H;have c8b0 := eq_true c8;have c8b1 := decide_eq_true c8;(try have c8b2 : (9223372036854775807 < t226.size + t227.size) = False := eq_false (Nat.not_lt.2 c8));obtain rfl := Option.some.inj H;(go_enter Tryz.func79, Tryz.ntmps79);go_wp2_with (first | ((with_reducible refine gate_callee (f := 79) rfl ?_); refine goesL_ (some 11) rfl rfl Tryz.func79 (by kernel_rfl) rfl #[.int .i64 (wrap64 (Int.tdiv a0 10))] rfl sM ?_; (with_reducible refine (ih k (by omega) (wrap64 (Int.tdiv a0 10)) t226 _ A6.out).mono ?_); rintro e w' ⟨rfl, ⟨nd, rfl⟩⟩; refine ⟨_, rfl, ?_⟩) | ((with_reducible refine gate_callee (f := 79) rfl ?_); refine goesL_ (some 14) rfl rfl Tryz.func79 (by kernel_rfl) rfl #[.int .i64 (Int.tmod a0 10)] rfl sM ?_; (with_reducible refine (ih k (by omega) (Int.tmod a0 10) t227 _ A7.out).mono ?_); rintro e w' ⟨rfl, ⟨nd, rfl⟩⟩; refine ⟨_, rfl, ?_⟩));go_ret;exact ⟨sE, sD⟩
  ·rw [if_neg c8] at H;exact absurd H (by simp)
def hoggetref04_Told.f (k : Nat) (a0_0 : Int) (a0_1 : Int) (a0_2 : Int) (a0_3 : ByteArray) : Option (ByteArray) := (hoggetref04_Text.f k a0_0).bind fun t229 => (if t229.size + 1 ≤ 9223372036854775807 then ((hoggetref04_Text.f k a0_1).bind fun t230 => (if (t229 ++ (⟨#[46]⟩ : ByteArray)).size + t230.size ≤ 9223372036854775807 then (if ((t229 ++ (⟨#[46]⟩ : ByteArray)) ++ t230).size + 1 ≤ 9223372036854775807 then ((hoggetref04_Text.f k a0_2).bind fun t231 => (if (((t229 ++ (⟨#[46]⟩ : ByteArray)) ++ t230) ++ (⟨#[46]⟩ : ByteArray)).size + t231.size ≤ 9223372036854775807 then (if a0_3.toList = ([] : List UInt8) then (some ((((t229 ++ (⟨#[46]⟩ : ByteArray)) ++ t230) ++ (⟨#[46]⟩ : ByteArray)) ++ t231)) else (if ((((t229 ++ (⟨#[46]⟩ : ByteArray)) ++ t230) ++ (⟨#[46]⟩ : ByteArray)) ++ t231).size + 1 ≤ 9223372036854775807 then (if (((((t229 ++ (⟨#[46]⟩ : ByteArray)) ++ t230) ++ (⟨#[46]⟩ : ByteArray)) ++ t231) ++ (⟨#[45]⟩ : ByteArray)).size + a0_3.size ≤ 9223372036854775807 then (some ((((((t229 ++ (⟨#[46]⟩ : ByteArray)) ++ t230) ++ (⟨#[46]⟩ : ByteArray)) ++ t231) ++ (⟨#[45]⟩ : ByteArray)) ++ a0_3)) else (none)) else (none))) else (none))) else (none)) else (none))) else (none))
theorem hoggetref04_Told.calls (k : Nat) (a0_0 : Int) (a0_1 : Int) (a0_2 : Int) (a0_3 : ByteArray) (r : ByteArray) (w : World) (h : hoggetref04_Told.f k a0_0 a0_1 a0_2 a0_3 = some r) :
 Calls Tryz.prog 54 #[.agg #[.int .i64 a0_0, .int .i64 a0_1, .int .i64 a0_2, .string a0_3]] w fun e w' => e = .returned (.string r) ∧ Below w.heap.size w w' := by
 have hu35 := Tryz.underlying35;have HB := Aside0.mk (Below.refl w.heap.size w);have H : ((hoggetref04_Text.f k a0_0).bind fun t229 => (if t229.size + 1 ≤ 9223372036854775807 then ((hoggetref04_Text.f k a0_1).bind fun t230 => (if (t229 ++ (⟨#[46]⟩ : ByteArray)).size + t230.size ≤ 9223372036854775807 then (if ((t229 ++ (⟨#[46]⟩ : ByteArray)) ++ t230).size + 1 ≤ 9223372036854775807 then ((hoggetref04_Text.f k a0_2).bind fun t231 => (if (((t229 ++ (⟨#[46]⟩ : ByteArray)) ++ t230) ++ (⟨#[46]⟩ : ByteArray)).size + t231.size ≤ 9223372036854775807 then (if a0_3.toList = ([] : List UInt8) then (some ((((t229 ++ (⟨#[46]⟩ : ByteArray)) ++ t230) ++ (⟨#[46]⟩ : ByteArray)) ++ t231)) else (if ((((t229 ++ (⟨#[46]⟩ : ByteArray)) ++ t230) ++ (⟨#[46]⟩ : ByteArray)) ++ t231).size + 1 ≤ 9223372036854775807 then (if (((((t229 ++ (⟨#[46]⟩ : ByteArray)) ++ t230) ++ (⟨#[46]⟩ : ByteArray)) ++ t231) ++ (⟨#[45]⟩ : ByteArray)).size + a0_3.size ≤ 9223372036854775807 then (some ((((((t229 ++ (⟨#[46]⟩ : ByteArray)) ++ t230) ++ (⟨#[46]⟩ : ByteArray)) ++ t231) ++ (⟨#[45]⟩ : ByteArray)) ++ a0_3)) else (none)) else (none))) else (none))) else (none)) else (none))) else (none))) = some r := h;clear h;replace H := Option.bind_eq_some_iff.mp H;obtain ⟨t229, A20, H⟩ := H;have A2 := Aside0.mk A20;clear A20;by_cases c3 : t229.size + 1 ≤ 9223372036854775807
 ·rw [if_pos c3] at H;have c3b0 := eq_true c3;have c3b1 := decide_eq_true c3;(try have c3b2 : (9223372036854775807 < t229.size + 1) = False := eq_false (Nat.not_lt.2 c3));replace H := Option.bind_eq_some_iff.mp H;obtain ⟨t230, A40, H⟩ := H;have A4 := Aside0.mk A40;clear A40;by_cases c5 : (t229 ++ (⟨#[46]⟩ : ByteArray)).size + t230.size ≤ 9223372036854775807
  ·rw [if_pos c5] at H;have c5b0 := eq_true c5;(try (have c5s_ := c5; simp only [ByteArray.size_append, show (⟨#[46]⟩ : ByteArray).size = 1 from rfl] at c5s_));(try (have c5t_ := eq_false (Nat.not_lt.2 c5s_)));(try (have c5u_ := Nat.le_of_add_right_le c5s_; have c5ut_ := eq_false (Nat.not_lt.2 c5u_)));(try (have c5v_ := Nat.le_of_add_right_le c5u_; have c5vt_ := eq_false (Nat.not_lt.2 c5v_)));(try (have c5x_ := Nat.le_of_add_right_le c5v_; have c5xt_ := eq_false (Nat.not_lt.2 c5x_)));(try (have c5y_ := Nat.le_of_add_right_le c5x_; have c5yt_ := eq_false (Nat.not_lt.2 c5y_)));have c5b1 := decide_eq_true c5;(try have c5b2 : (9223372036854775807 < (t229 ++ (⟨#[46]⟩ : ByteArray)).size + t230.size) = False := eq_false (Nat.not_lt.2 c5));by_cases c6 : ((t229 ++ (⟨#[46]⟩ : ByteArray)) ++ t230).size + 1 ≤ 9223372036854775807
   ·rw [if_pos c6] at H;have c6b0 := eq_true c6;(try (have c6s_ := c6; simp only [ByteArray.size_append, show (⟨#[46]⟩ : ByteArray).size = 1 from rfl] at c6s_));(try (have c6t_ := eq_false (Nat.not_lt.2 c6s_)));(try (have c6u_ := Nat.le_of_add_right_le c6s_; have c6ut_ := eq_false (Nat.not_lt.2 c6u_)));(try (have c6v_ := Nat.le_of_add_right_le c6u_; have c6vt_ := eq_false (Nat.not_lt.2 c6v_)));(try (have c6x_ := Nat.le_of_add_right_le c6v_; have c6xt_ := eq_false (Nat.not_lt.2 c6x_)));(try (have c6y_ := Nat.le_of_add_right_le c6x_; have c6yt_ := eq_false (Nat.not_lt.2 c6y_)));have c6b1 := decide_eq_true c6;(try have c6b2 : (9223372036854775807 < ((t229 ++ (⟨#[46]⟩ : ByteArray)) ++ t230).size + 1) = False := eq_false (Nat.not_lt.2 c6));replace H := Option.bind_eq_some_iff.mp H;obtain ⟨t231, A70, H⟩ := H;have A7 := Aside0.mk A70;clear A70;by_cases c8 : (((t229 ++ (⟨#[46]⟩ : ByteArray)) ++ t230) ++ (⟨#[46]⟩ : ByteArray)).size + t231.size ≤ 9223372036854775807
    ·rw [if_pos c8] at H;have c8b0 := eq_true c8;(try (have c8s_ := c8; simp only [ByteArray.size_append, show (⟨#[46]⟩ : ByteArray).size = 1 from rfl] at c8s_));(try (have c8t_ := eq_false (Nat.not_lt.2 c8s_)));(try (have c8u_ := Nat.le_of_add_right_le c8s_; have c8ut_ := eq_false (Nat.not_lt.2 c8u_)));(try (have c8v_ := Nat.le_of_add_right_le c8u_; have c8vt_ := eq_false (Nat.not_lt.2 c8v_)));(try (have c8x_ := Nat.le_of_add_right_le c8v_; have c8xt_ := eq_false (Nat.not_lt.2 c8x_)));(try (have c8y_ := Nat.le_of_add_right_le c8x_; have c8yt_ := eq_false (Nat.not_lt.2 c8y_)));have c8b1 := decide_eq_true c8;(try have c8b2 : (9223372036854775807 < (((t229 ++ (⟨#[46]⟩ : ByteArray)) ++ t230) ++ (⟨#[46]⟩ : ByteArray)).size + t231.size) = False := eq_false (Nat.not_lt.2 c8));by_cases c9 : a0_3.toList = ([] : List UInt8)
     ·rw [if_pos c9] at H;have c9b0 := beq_iff_eq.mpr c9;have c9b1 := bne_eq_false_iff_eq.mpr c9;clear c9;obtain rfl := Option.some.inj H;(go_enter Tryz.func54, Tryz.ntmps54);go_wp2_with (first | ((with_reducible refine gate_dst (N := 1) rfl ?_); refine box_event ?hg (N := 1) ?hd (cs := #[.int .i64 a0_0, .int .i64 a0_1, .int .i64 a0_2, .string a0_3]) (t := 35) ?hr ?_; (case hd => rfl); (case hg => rfl); (case hr => first | (go_simp; done) | (go_simp; rfl)); intro gb228 hg w10 hbox hb; have n0_ := Aside0.mk (below_step (sL HB.out) hb); have n1_ := Aside0.mk (hbox); have n2_ := Aside0.mk ((by rw [hg]; exact (below_size (sL HB.out)) : w.heap.size ≤ gb228)); have n3_ := Aside0.mk ((by rw [hg]; exact (below_size (sL HB.out)) : w.heap.size ≤ gb228)); clear HB; have HB := n0_; have BK228 := n1_; have GW228 := n2_; have GE228 := n3_; clear n0_ n1_ n2_ n3_; clear hb hbox hg; have hcz11_0 : w10.cell? ⟨gb228, 0, none⟩ = some (.int .i64 a0_0) := (blk_cell BK228.out 0).trans rfl; have hcz11_1 : w10.cell? ⟨gb228, 1, none⟩ = some (.int .i64 a0_1) := (blk_cell BK228.out 1).trans rfl; have hcz11_2 : w10.cell? ⟨gb228, 2, none⟩ = some (.int .i64 a0_2) := (blk_cell BK228.out 2).trans rfl; have hcz11_3 : w10.cell? ⟨gb228, 3, none⟩ = some (.string a0_3) := (blk_cell BK228.out 3).trans rfl; have hfz11_0 := blk_frozen BK228.out 0; have hfz11_1 := blk_frozen BK228.out 1; have hfz11_2 := blk_frozen BK228.out 2; have hfz11_3 := blk_frozen BK228.out 3) | (go_at_call 79; (with_reducible refine (hoggetref04_Text.calls k a0_0 t229 _ A2.out).mono ?_); rintro e w' ⟨rfl, ⟨nd, rfl⟩⟩; (try first | exact ⟨rfl, _, World.drewN_drewN _ _ _⟩ | exact ⟨rfl, _, Eq.trans (World.drewN_drewN _ _ _) (congrArg (World.drewN _) (Nat.add_assoc _ _ _))⟩)) | (go_at_call 79; (with_reducible refine (hoggetref04_Text.calls k a0_1 t230 _ A4.out).mono ?_); rintro e w' ⟨rfl, ⟨nd, rfl⟩⟩; (try first | exact ⟨rfl, _, World.drewN_drewN _ _ _⟩ | exact ⟨rfl, _, Eq.trans (World.drewN_drewN _ _ _) (congrArg (World.drewN _) (Nat.add_assoc _ _ _))⟩)) | (go_at_call 79; (with_reducible refine (hoggetref04_Text.calls k a0_2 t231 _ A7.out).mono ?_); rintro e w' ⟨rfl, ⟨nd, rfl⟩⟩; (try first | exact ⟨rfl, _, World.drewN_drewN _ _ _⟩ | exact ⟨rfl, _, Eq.trans (World.drewN_drewN _ _ _) (congrArg (World.drewN _) (Nat.add_assoc _ _ _))⟩)));(repeat (go_quiet (first | ((with_reducible refine gate_dst (N := 1) rfl ?_); refine box_event ?hg (N := 1) ?hd (cs := #[.int .i64 a0_0, .int .i64 a0_1, .int .i64 a0_2, .string a0_3]) (t := 35) ?hr ?_; (case hd => rfl); (case hg => rfl); (case hr => first | (go_simp; done) | (go_simp; rfl)); intro gb228 hg w10 hbox hb; have n0_ := Aside0.mk (below_step (sL HB.out) hb); have n1_ := Aside0.mk (hbox); have n2_ := Aside0.mk ((by rw [hg]; exact (below_size (sL HB.out)) : w.heap.size ≤ gb228)); have n3_ := Aside0.mk ((by rw [hg]; exact (below_size (sL HB.out)) : w.heap.size ≤ gb228)); clear HB; have HB := n0_; have BK228 := n1_; have GW228 := n2_; have GE228 := n3_; clear n0_ n1_ n2_ n3_; clear hb hbox hg; have hcz11_0 : w10.cell? ⟨gb228, 0, none⟩ = some (.int .i64 a0_0) := (blk_cell BK228.out 0).trans rfl; have hcz11_1 : w10.cell? ⟨gb228, 1, none⟩ = some (.int .i64 a0_1) := (blk_cell BK228.out 1).trans rfl; have hcz11_2 : w10.cell? ⟨gb228, 2, none⟩ = some (.int .i64 a0_2) := (blk_cell BK228.out 2).trans rfl; have hcz11_3 : w10.cell? ⟨gb228, 3, none⟩ = some (.string a0_3) := (blk_cell BK228.out 3).trans rfl; have hfz11_0 := blk_frozen BK228.out 0; have hfz11_1 := blk_frozen BK228.out 1; have hfz11_2 := blk_frozen BK228.out 2; have hfz11_3 := blk_frozen BK228.out 3) | (go_at_call 79; (with_reducible refine (hoggetref04_Text.calls k a0_0 t229 _ A2.out).mono ?_); rintro e w' ⟨rfl, ⟨nd, rfl⟩⟩; (try first | exact ⟨rfl, _, World.drewN_drewN _ _ _⟩ | exact ⟨rfl, _, Eq.trans (World.drewN_drewN _ _ _) (congrArg (World.drewN _) (Nat.add_assoc _ _ _))⟩)) | (go_at_call 79; (with_reducible refine (hoggetref04_Text.calls k a0_1 t230 _ A4.out).mono ?_); rintro e w' ⟨rfl, ⟨nd, rfl⟩⟩; (try first | exact ⟨rfl, _, World.drewN_drewN _ _ _⟩ | exact ⟨rfl, _, Eq.trans (World.drewN_drewN _ _ _) (congrArg (World.drewN _) (Nat.add_assoc _ _ _))⟩)) | (go_at_call 79; (with_reducible refine (hoggetref04_Text.calls k a0_2 t231 _ A7.out).mono ?_); rintro e w' ⟨rfl, ⟨nd, rfl⟩⟩; (try first | exact ⟨rfl, _, World.drewN_drewN _ _ _⟩ | exact ⟨rfl, _, Eq.trans (World.drewN_drewN _ _ _) (congrArg (World.drewN _) (Nat.add_assoc _ _ _))⟩))); try go_wp2_with (first | ((with_reducible refine gate_dst (N := 1) rfl ?_); refine box_event ?hg (N := 1) ?hd (cs := #[.int .i64 a0_0, .int .i64 a0_1, .int .i64 a0_2, .string a0_3]) (t := 35) ?hr ?_; (case hd => rfl); (case hg => rfl); (case hr => first | (go_simp; done) | (go_simp; rfl)); intro gb228 hg w10 hbox hb; have n0_ := Aside0.mk (below_step (sL HB.out) hb); have n1_ := Aside0.mk (hbox); have n2_ := Aside0.mk ((by rw [hg]; exact (below_size (sL HB.out)) : w.heap.size ≤ gb228)); have n3_ := Aside0.mk ((by rw [hg]; exact (below_size (sL HB.out)) : w.heap.size ≤ gb228)); clear HB; have HB := n0_; have BK228 := n1_; have GW228 := n2_; have GE228 := n3_; clear n0_ n1_ n2_ n3_; clear hb hbox hg; have hcz11_0 : w10.cell? ⟨gb228, 0, none⟩ = some (.int .i64 a0_0) := (blk_cell BK228.out 0).trans rfl; have hcz11_1 : w10.cell? ⟨gb228, 1, none⟩ = some (.int .i64 a0_1) := (blk_cell BK228.out 1).trans rfl; have hcz11_2 : w10.cell? ⟨gb228, 2, none⟩ = some (.int .i64 a0_2) := (blk_cell BK228.out 2).trans rfl; have hcz11_3 : w10.cell? ⟨gb228, 3, none⟩ = some (.string a0_3) := (blk_cell BK228.out 3).trans rfl; have hfz11_0 := blk_frozen BK228.out 0; have hfz11_1 := blk_frozen BK228.out 1; have hfz11_2 := blk_frozen BK228.out 2; have hfz11_3 := blk_frozen BK228.out 3) | (go_at_call 79; (with_reducible refine (hoggetref04_Text.calls k a0_0 t229 _ A2.out).mono ?_); rintro e w' ⟨rfl, ⟨nd, rfl⟩⟩; (try first | exact ⟨rfl, _, World.drewN_drewN _ _ _⟩ | exact ⟨rfl, _, Eq.trans (World.drewN_drewN _ _ _) (congrArg (World.drewN _) (Nat.add_assoc _ _ _))⟩)) | (go_at_call 79; (with_reducible refine (hoggetref04_Text.calls k a0_1 t230 _ A4.out).mono ?_); rintro e w' ⟨rfl, ⟨nd, rfl⟩⟩; (try first | exact ⟨rfl, _, World.drewN_drewN _ _ _⟩ | exact ⟨rfl, _, Eq.trans (World.drewN_drewN _ _ _) (congrArg (World.drewN _) (Nat.add_assoc _ _ _))⟩)) | (go_at_call 79; (with_reducible refine (hoggetref04_Text.calls k a0_2 t231 _ A7.out).mono ?_); rintro e w' ⟨rfl, ⟨nd, rfl⟩⟩; (try first | exact ⟨rfl, _, World.drewN_drewN _ _ _⟩ | exact ⟨rfl, _, Eq.trans (World.drewN_drewN _ _ _) (congrArg (World.drewN _) (Nat.add_assoc _ _ _))⟩)))));go_ret;exact ⟨by first | rfl | (simp [errW_none, errW_some] <;> rfl) | (simp [*, errW_none, errW_some] <;> rfl), sL1 HB.out GE228.out⟩
     ·rw [if_neg c9] at H;have c9b0 := beq_eq_false_iff_ne.mpr c9;have c9b1 := bne_iff_ne.mpr c9;by_cases c12 : ((((t229 ++ (⟨#[46]⟩ : ByteArray)) ++ t230) ++ (⟨#[46]⟩ : ByteArray)) ++ t231).size + 1 ≤ 9223372036854775807
      ·rw [if_pos c12] at H;have c12b0 := eq_true c12;(try (have c12s_ := c12; simp only [ByteArray.size_append, show (⟨#[46]⟩ : ByteArray).size = 1 from rfl] at c12s_));(try (have c12t_ := eq_false (Nat.not_lt.2 c12s_)));(try (have c12u_ := Nat.le_of_add_right_le c12s_; have c12ut_ := eq_false (Nat.not_lt.2 c12u_)));(try (have c12v_ := Nat.le_of_add_right_le c12u_; have c12vt_ := eq_false (Nat.not_lt.2 c12v_)));(try (have c12x_ := Nat.le_of_add_right_le c12v_; have c12xt_ := eq_false (Nat.not_lt.2 c12x_)));(try (have c12y_ := Nat.le_of_add_right_le c12x_; have c12yt_ := eq_false (Nat.not_lt.2 c12y_)));have c12b1 := decide_eq_true c12;(try have c12b2 : (9223372036854775807 < ((((t229 ++ (⟨#[46]⟩ : ByteArray)) ++ t230) ++ (⟨#[46]⟩ : ByteArray)) ++ t231).size + 1) = False := eq_false (Nat.not_lt.2 c12));by_cases c13 : (((((t229 ++ (⟨#[46]⟩ : ByteArray)) ++ t230) ++ (⟨#[46]⟩ : ByteArray)) ++ t231) ++ (⟨#[45]⟩ : ByteArray)).size + a0_3.size ≤ 9223372036854775807
       ·rw [if_pos c13] at H;have c13b0 := eq_true c13;(try (have c13s_ := c13; simp only [ByteArray.size_append, show (⟨#[46]⟩ : ByteArray).size = 1 from rfl, show (⟨#[45]⟩ : ByteArray).size = 1 from rfl] at c13s_));(try (have c13t_ := eq_false (Nat.not_lt.2 c13s_)));(try (have c13u_ := Nat.le_of_add_right_le c13s_; have c13ut_ := eq_false (Nat.not_lt.2 c13u_)));(try (have c13v_ := Nat.le_of_add_right_le c13u_; have c13vt_ := eq_false (Nat.not_lt.2 c13v_)));(try (have c13x_ := Nat.le_of_add_right_le c13v_; have c13xt_ := eq_false (Nat.not_lt.2 c13x_)));(try (have c13y_ := Nat.le_of_add_right_le c13x_; have c13yt_ := eq_false (Nat.not_lt.2 c13y_)));have c13b1 := decide_eq_true c13;(try have c13b2 : (9223372036854775807 < (((((t229 ++ (⟨#[46]⟩ : ByteArray)) ++ t230) ++ (⟨#[46]⟩ : ByteArray)) ++ t231) ++ (⟨#[45]⟩ : ByteArray)).size + a0_3.size) = False := eq_false (Nat.not_lt.2 c13));obtain rfl := Option.some.inj H;(go_enter Tryz.func54, Tryz.ntmps54);go_wp2_with (first | ((with_reducible refine gate_dst (N := 1) rfl ?_); refine box_event ?hg (N := 1) ?hd (cs := #[.int .i64 a0_0, .int .i64 a0_1, .int .i64 a0_2, .string a0_3]) (t := 35) ?hr ?_; (case hd => rfl); (case hg => rfl); (case hr => first | (go_simp; done) | (go_simp; rfl)); intro gb228 hg w14 hbox hb; have n0_ := Aside0.mk (below_step (sL HB.out) hb); have n1_ := Aside0.mk (hbox); have n2_ := Aside0.mk ((by rw [hg]; exact (below_size (sL HB.out)) : w.heap.size ≤ gb228)); have n3_ := Aside0.mk ((by rw [hg]; exact (below_size (sL HB.out)) : w.heap.size ≤ gb228)); clear HB; have HB := n0_; have BK228 := n1_; have GW228 := n2_; have GE228 := n3_; clear n0_ n1_ n2_ n3_; clear hb hbox hg; have hcz15_0 : w14.cell? ⟨gb228, 0, none⟩ = some (.int .i64 a0_0) := (blk_cell BK228.out 0).trans rfl; have hcz15_1 : w14.cell? ⟨gb228, 1, none⟩ = some (.int .i64 a0_1) := (blk_cell BK228.out 1).trans rfl; have hcz15_2 : w14.cell? ⟨gb228, 2, none⟩ = some (.int .i64 a0_2) := (blk_cell BK228.out 2).trans rfl; have hcz15_3 : w14.cell? ⟨gb228, 3, none⟩ = some (.string a0_3) := (blk_cell BK228.out 3).trans rfl; have hfz15_0 := blk_frozen BK228.out 0; have hfz15_1 := blk_frozen BK228.out 1; have hfz15_2 := blk_frozen BK228.out 2; have hfz15_3 := blk_frozen BK228.out 3) | (go_at_call 79; (with_reducible refine (hoggetref04_Text.calls k a0_0 t229 _ A2.out).mono ?_); rintro e w' ⟨rfl, ⟨nd, rfl⟩⟩; (try first | exact ⟨rfl, _, World.drewN_drewN _ _ _⟩ | exact ⟨rfl, _, Eq.trans (World.drewN_drewN _ _ _) (congrArg (World.drewN _) (Nat.add_assoc _ _ _))⟩)) | (go_at_call 79; (with_reducible refine (hoggetref04_Text.calls k a0_1 t230 _ A4.out).mono ?_); rintro e w' ⟨rfl, ⟨nd, rfl⟩⟩; (try first | exact ⟨rfl, _, World.drewN_drewN _ _ _⟩ | exact ⟨rfl, _, Eq.trans (World.drewN_drewN _ _ _) (congrArg (World.drewN _) (Nat.add_assoc _ _ _))⟩)) | (go_at_call 79; (with_reducible refine (hoggetref04_Text.calls k a0_2 t231 _ A7.out).mono ?_); rintro e w' ⟨rfl, ⟨nd, rfl⟩⟩; (try first | exact ⟨rfl, _, World.drewN_drewN _ _ _⟩ | exact ⟨rfl, _, Eq.trans (World.drewN_drewN _ _ _) (congrArg (World.drewN _) (Nat.add_assoc _ _ _))⟩)));(repeat (go_quiet (first | ((with_reducible refine gate_dst (N := 1) rfl ?_); refine box_event ?hg (N := 1) ?hd (cs := #[.int .i64 a0_0, .int .i64 a0_1, .int .i64 a0_2, .string a0_3]) (t := 35) ?hr ?_; (case hd => rfl); (case hg => rfl); (case hr => first | (go_simp; done) | (go_simp; rfl)); intro gb228 hg w14 hbox hb; have n0_ := Aside0.mk (below_step (sL HB.out) hb); have n1_ := Aside0.mk (hbox); have n2_ := Aside0.mk ((by rw [hg]; exact (below_size (sL HB.out)) : w.heap.size ≤ gb228)); have n3_ := Aside0.mk ((by rw [hg]; exact (below_size (sL HB.out)) : w.heap.size ≤ gb228)); clear HB; have HB := n0_; have BK228 := n1_; have GW228 := n2_; have GE228 := n3_; clear n0_ n1_ n2_ n3_; clear hb hbox hg; have hcz15_0 : w14.cell? ⟨gb228, 0, none⟩ = some (.int .i64 a0_0) := (blk_cell BK228.out 0).trans rfl; have hcz15_1 : w14.cell? ⟨gb228, 1, none⟩ = some (.int .i64 a0_1) := (blk_cell BK228.out 1).trans rfl; have hcz15_2 : w14.cell? ⟨gb228, 2, none⟩ = some (.int .i64 a0_2) := (blk_cell BK228.out 2).trans rfl; have hcz15_3 : w14.cell? ⟨gb228, 3, none⟩ = some (.string a0_3) := (blk_cell BK228.out 3).trans rfl; have hfz15_0 := blk_frozen BK228.out 0; have hfz15_1 := blk_frozen BK228.out 1; have hfz15_2 := blk_frozen BK228.out 2; have hfz15_3 := blk_frozen BK228.out 3) | (go_at_call 79; (with_reducible refine (hoggetref04_Text.calls k a0_0 t229 _ A2.out).mono ?_); rintro e w' ⟨rfl, ⟨nd, rfl⟩⟩; (try first | exact ⟨rfl, _, World.drewN_drewN _ _ _⟩ | exact ⟨rfl, _, Eq.trans (World.drewN_drewN _ _ _) (congrArg (World.drewN _) (Nat.add_assoc _ _ _))⟩)) | (go_at_call 79; (with_reducible refine (hoggetref04_Text.calls k a0_1 t230 _ A4.out).mono ?_); rintro e w' ⟨rfl, ⟨nd, rfl⟩⟩; (try first | exact ⟨rfl, _, World.drewN_drewN _ _ _⟩ | exact ⟨rfl, _, Eq.trans (World.drewN_drewN _ _ _) (congrArg (World.drewN _) (Nat.add_assoc _ _ _))⟩)) | (go_at_call 79; (with_reducible refine (hoggetref04_Text.calls k a0_2 t231 _ A7.out).mono ?_); rintro e w' ⟨rfl, ⟨nd, rfl⟩⟩; (try first | exact ⟨rfl, _, World.drewN_drewN _ _ _⟩ | exact ⟨rfl, _, Eq.trans (World.drewN_drewN _ _ _) (congrArg (World.drewN _) (Nat.add_assoc _ _ _))⟩))); try go_wp2_with (first | ((with_reducible refine gate_dst (N := 1) rfl ?_); refine box_event ?hg (N := 1) ?hd (cs := #[.int .i64 a0_0, .int .i64 a0_1, .int .i64 a0_2, .string a0_3]) (t := 35) ?hr ?_; (case hd => rfl); (case hg => rfl); (case hr => first | (go_simp; done) | (go_simp; rfl)); intro gb228 hg w14 hbox hb; have n0_ := Aside0.mk (below_step (sL HB.out) hb); have n1_ := Aside0.mk (hbox); have n2_ := Aside0.mk ((by rw [hg]; exact (below_size (sL HB.out)) : w.heap.size ≤ gb228)); have n3_ := Aside0.mk ((by rw [hg]; exact (below_size (sL HB.out)) : w.heap.size ≤ gb228)); clear HB; have HB := n0_; have BK228 := n1_; have GW228 := n2_; have GE228 := n3_; clear n0_ n1_ n2_ n3_; clear hb hbox hg; have hcz15_0 : w14.cell? ⟨gb228, 0, none⟩ = some (.int .i64 a0_0) := (blk_cell BK228.out 0).trans rfl; have hcz15_1 : w14.cell? ⟨gb228, 1, none⟩ = some (.int .i64 a0_1) := (blk_cell BK228.out 1).trans rfl; have hcz15_2 : w14.cell? ⟨gb228, 2, none⟩ = some (.int .i64 a0_2) := (blk_cell BK228.out 2).trans rfl; have hcz15_3 : w14.cell? ⟨gb228, 3, none⟩ = some (.string a0_3) := (blk_cell BK228.out 3).trans rfl; have hfz15_0 := blk_frozen BK228.out 0; have hfz15_1 := blk_frozen BK228.out 1; have hfz15_2 := blk_frozen BK228.out 2; have hfz15_3 := blk_frozen BK228.out 3) | (go_at_call 79; (with_reducible refine (hoggetref04_Text.calls k a0_0 t229 _ A2.out).mono ?_); rintro e w' ⟨rfl, ⟨nd, rfl⟩⟩; (try first | exact ⟨rfl, _, World.drewN_drewN _ _ _⟩ | exact ⟨rfl, _, Eq.trans (World.drewN_drewN _ _ _) (congrArg (World.drewN _) (Nat.add_assoc _ _ _))⟩)) | (go_at_call 79; (with_reducible refine (hoggetref04_Text.calls k a0_1 t230 _ A4.out).mono ?_); rintro e w' ⟨rfl, ⟨nd, rfl⟩⟩; (try first | exact ⟨rfl, _, World.drewN_drewN _ _ _⟩ | exact ⟨rfl, _, Eq.trans (World.drewN_drewN _ _ _) (congrArg (World.drewN _) (Nat.add_assoc _ _ _))⟩)) | (go_at_call 79; (with_reducible refine (hoggetref04_Text.calls k a0_2 t231 _ A7.out).mono ?_); rintro e w' ⟨rfl, ⟨nd, rfl⟩⟩; (try first | exact ⟨rfl, _, World.drewN_drewN _ _ _⟩ | exact ⟨rfl, _, Eq.trans (World.drewN_drewN _ _ _) (congrArg (World.drewN _) (Nat.add_assoc _ _ _))⟩)))));go_ret;exact ⟨by first | rfl | (simp [errW_none, errW_some] <;> rfl) | (simp [*, errW_none, errW_some] <;> rfl), sL1 HB.out GE228.out⟩
       ·rw [if_neg c13] at H;exact absurd H (by simp)
      ·rw [if_neg c12] at H;exact absurd H (by simp)
    ·rw [if_neg c8] at H;exact absurd H (by simp)
   ·rw [if_neg c6] at H;exact absurd H (by simp)
  ·rw [if_neg c5] at H;exact absurd H (by simp)
 ·rw [if_neg c3] at H;exact absurd H (by simp)
end Go.Proofs.YtijooffpjfhidaaGreatDoor.G
end
