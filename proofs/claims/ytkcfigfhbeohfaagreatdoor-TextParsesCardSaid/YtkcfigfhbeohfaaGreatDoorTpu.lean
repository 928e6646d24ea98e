/- The scanner's value: a value of a depth, by induction on how deep it may yet go. -/
import Derived.Test.YtkcfigfhbeohfaaGreatDoorTpt
import Derived.StillTailTactics
namespace Go.Proofs.YtkcfigfhbeohfaaGreatDoor.Tp
open Go Go.RowKit Go.Maps Go.Proofs.YtkcfigfhbeohfaaGreatDoorW.PrintWords
section
variable {W : World} {g base : Nat} {s : ByteArray} {p : Nat} {o : List Nd} {c a : Int} {v : Value}
/-- The boxes of value's two parameters. -/
structure Bx (W : World) (b g : Nat) (dep : Int) : Prop where
  x0 : W.heap[b]? = some (.cells #[.pointer (some ⟨g, 0, none⟩)] 33 (0, 0))
  x1 : W.heap[b + 1]? = some (.cells #[.int .i64 dep] 3 (0, 0))
theorem Bx.c0 {b : Nat} {dep : Int} (h : Bx W b g dep) : W.cell? ⟨b, 0, none⟩ = some (.pointer (some ⟨g, 0, none⟩)) := (blk_cell h.x0 0).trans rfl
theorem Bx.c1 {b : Nat} {dep : Int} (h : Bx W b g dep) : W.cell? ⟨b + 1, 0, none⟩ = some (.int .i64 dep) := (blk_cell h.x1 0).trans rfl
theorem Bx.keep {b : Nat} {dep : Int} {W' : World} {v' : Value} {X : Nat → Prop} (h : Bx W b g dep) (hS : Sc W g base s p o c a v) (hT : Stp X g W v W' v') (hX : ¬ X b ∧ ¬ X (b + 1)) : Bx W' b g dep :=
  ⟨hS.keep hT h.x0 hX.1 (fun cs t f e => by cases e; decide), hS.keep hT h.x1 hX.2 (fun cs t f e => by cases e; decide)⟩
theorem Bx.drewN {b : Nat} {dep : Int} (h : Bx W b g dep) (n : Nat) : Bx (W.drewN n) b g dep := ⟨h.x0, h.x1⟩
theorem Bx.drew {b : Nat} {dep : Int} (h : Bx W b g dep) : Bx W.drew b g dep := ⟨h.x0, h.x1⟩
theorem Bx.made (W : World) (g : Nat) (dep : Int) : Bx ((W.alloc (.cells #[.pointer (some ⟨g, 0, none⟩)] 33)).alloc (.cells #[.int .i64 dep] 3)) W.heap.size g dep := by
  refine ⟨blk_alloc (blk_new W _) _, ?_⟩
  have := blk_new (W.alloc (.cells #[.pointer (some ⟨g, 0, none⟩)] 33)) (.cells #[.int .i64 dep] 3)
  rw [World.size_alloc] at this
  exact this
abbrev X0 : Nat → Prop := fun _ => False
theorem eats_elem (d : Nat) : Eats (elem (value d)) := by
  intro st r o r1 st1 h
  obtain ⟨cc, e, n, _⟩ := (elem_ext (value_ext d)).2 st r o r1 st1 h
  have h1 := elem_len (value_len d) _ _ _ _ _ h
  refine ⟨cc, e, n, ?_⟩
  have := congrArg List.length e
  rw [List.length_append] at this; omega
theorem eats_member (d : Nat) : Eats (member (value d)) := by
  intro st r o r1 st1 h
  obtain ⟨cc, e, n, _⟩ := (member_ext (value_ext d)).2 st r o r1 st1 h
  have h1 := member_len (value_len d) _ _ _ _ _ h
  refine ⟨cc, e, n, ?_⟩
  have := congrArg List.length e
  rw [List.length_append] at this; omega
theorem keys_grow {v : List UInt8 → R (List Nd)} (hv : ValExt v) (N : Nat) (st : List (List UInt8)) (r : List UInt8) (o : List Nd) (r1 : List UInt8) (st1 : List (List UInt8)) (h : member v st r = .ok (o, r1, st1)) (hJ : st.length + r.length ≤ N) : st1.length + r1.length ≤ N := by
  obtain ⟨cc, e, n, _⟩ := (member_ext hv).2 st r o r1 st1 h
  have hl := congrArg List.length e
  rw [List.length_append] at hl
  have hc : 1 ≤ cc.length := by cases cc with | nil => exact absurd rfl n | cons => simp
  have hs : st1.length = st.length + 1 := by
    unfold member at h
    cases hq : quoted (skip r) with
    | error x => rw [hq] at h; cases h
    | ok y =>
      obtain ⟨key, q⟩ := y
      rw [hq] at h
      simp only at h
      by_cases hk : key ∈ st
      · rw [if_pos hk] at h; cases h
      · rw [if_neg hk] at h
        cases ht : takeB 58 q with
        | error x => rw [ht] at h; cases h
        | ok t =>
          rw [ht] at h
          simp only at h
          cases hv : v t with
          | error x => rw [hv] at h; cases h
          | ok y => rw [hv] at h; cases h; simp
  omega
/-- The contract of value where it may go d deep. -/
def VC (d : Nat) : Prop := ∀ (W : World) (g base : Nat) (s : ByteArray) (p : Nat) (o : List Nd) (c a : Int) (v : Value), Sc W g base s p o c a v → s.size ≤ 70368744177664 → o.length + (s.size - p) ≤ 4294967296 →
  Calls Tryz.prog 8 #[.pointer (some ⟨g, 0, none⟩), .int .i64 (21 - (d : Int))] W (Res X0 g base s c a W v o (value d (rest s p)))
set_option maxHeartbeats 16000000 in
set_option maxRecDepth 100000 in
theorem closure1_calls (d : Nat) (hd : d ≤ 19) (hV : VC d) (b : Nat) (h : Sc W g base s p o c a v) (hb : Bx W b g (21 - ((d + 1 : Nat) : Int))) (hz : s.size ≤ 70368744177664) (hf : o.length + (s.size - p) ≤ 4294967296) :
    Calls Tryz.prog 26 #[.pointer (some ⟨b, 0, none⟩), .pointer (some ⟨b + 1, 0, none⟩)] W (ERes (fun (_ : Unit) W' => Bx W' b g (21 - ((d + 1 : Nat) : Int))) X0 g base s c a W v o (elem (value d) () (rest s p))) := by
  have CV := Lib.hid (hV W g base s p o c a v h hz hf)
  obtain ⟨dep, hdep⟩ : ∃ dep : Int, 21 - ((d + 1 : Nat) : Int) = dep := ⟨_, rfl⟩
  have hdd : (21 : Int) - (d : Int) = dep + 1 := by omega
  have hl : 1 ≤ dep := by omega
  have hu : dep ≤ 20 := by omega
  rw [hdd] at CV
  rw [hdep] at hb ⊢
  have b0 := hb.c0
  have b1 := hb.c1
  have HB := Lib.hid hb
  have HS := Lib.hid h
  have hel : elem (value d) () (rest s p) = match value d (rest s p) with | .error x => .error x | .ok (p, r1) => .ok (p, r1, ()) := rfl
  clear h hb hdep hdd
  cases hv : value d (rest s p) with
  | error x =>
    rw [hv] at hel CV
    have HX := Lib.hid hel
    clear hel hv
    go_enter Tryz.func26, Tryz.ntmps26
    go_wp2_with (first | (go_at_call 8; refine CV.out.mono ?_; rintro e1 W1 ⟨q1, o1, v1, rfl, hS, hT⟩; have S1 := Lib.hid hS; have T1 := Lib.hid hT; clear hS hT))
    go_ret
    exact ERes.mk_err HX.out S1.out T1.out
  | ok y =>
    obtain ⟨o1, r1⟩ := y
    rw [hv] at hel CV
    have HX := Lib.hid hel
    clear hel hv
    go_enter Tryz.func26, Tryz.ntmps26
    go_wp2_with (first | (go_at_call 8; refine CV.out.mono ?_; rintro e1 W1 ⟨v1, rfl, hS, hT⟩; have S1 := Lib.hid hS; have T1 := Lib.hid hT; have B1 := Lib.hid (HB.out.keep HS.out hT ⟨fun f => f, fun f => f⟩); clear hS hT))
    go_ret
    exact ERes.mk_ok HX.out S1.out T1.out B1.out
set_option maxHeartbeats 16000000 in
set_option maxRecDepth 100000 in
theorem closure2_calls (d : Nat) (hd : d ≤ 19) (hV : VC d) (b kb mb : Nat) (ks : List (List UInt8)) (h : Sc W g base s p o c a v) (hb : Bx W b g (21 - ((d + 1 : Nat) : Int))) (hkb : W.heap[kb]? = some (.cells #[.map (some mb)] 56 (0, 0))) (hk : Keys W mb ks) (hz : s.size ≤ 70368744177664) (hf : o.length + (s.size - p) ≤ 4294967296) (hJ : ks.length ≤ s.size) :
    Calls Tryz.prog 27 #[.pointer (some ⟨b, 0, none⟩), .pointer (some ⟨kb, 0, none⟩), .pointer (some ⟨b + 1, 0, none⟩)] W (ERes (fun ks W' => Bx W' b g (21 - ((d + 1 : Nat) : Int)) ∧ W'.heap[kb]? = some (.cells #[.map (some mb)] 56 (0, 0)) ∧ Keys W' mb ks) (fun i => i = mb) g base s c a W v o (member (value d) ks (rest s p))) := by
  have hbm : b ≠ mb ∧ b + 1 ≠ mb ∧ kb ≠ mb := by
    obtain ⟨D, ⟨es, clock, h1, _⟩, _⟩ := hk
    refine ⟨fun e => ?_, fun e => ?_, fun e => ?_⟩
    · have := hb.x0; rw [e, h1] at this; cases this
    · have := hb.x1; rw [e, h1] at this; cases this
    · rw [e, h1] at hkb; cases hkb
  obtain ⟨dep, hdep⟩ : ∃ dep : Int, 21 - ((d + 1 : Nat) : Int) = dep := ⟨_, rfl⟩
  have hdd : (21 : Int) - (d : Int) = dep + 1 := by omega
  have CM := Lib.hid (member_calls h hz mb ks hk hJ dep (by omega) (by omega) (value d) (value_len d) (fun W1 v1 q o1 h1 hf1 => by rw [← hdd]; exact hV W1 g base s q o1 c a v1 h1 hz hf1) hf)
  rw [hdep] at hb ⊢
  have b0 := hb.c0
  have b1 := hb.c1
  have b2 : W.cell? ⟨kb, 0, none⟩ = some (.map (some mb)) := (blk_cell hkb 0).trans rfl
  have HB := Lib.hid hb
  have HS := Lib.hid h
  have HKB := Lib.hid hkb
  have hbm1 : ¬ b = mb := hbm.1
  have hbm2 : ¬ b + 1 = mb := hbm.2.1
  have hbm3 := Lib.hid hbm
  have CM2 : Hid (Calls Tryz.prog 28 #[.pointer (some ⟨g, 0, none⟩), .map (some mb), .int .i64 dep] W fun r W' => ∃ bb, r = .returned (.bool bb) ∧ ERes (fun ks W' => Bx W' b g dep ∧ W'.heap[kb]? = some (.cells #[.map (some mb)] 56 (0, 0)) ∧ Keys W' mb ks) (fun i => i = mb) g base s c a W v o (member (value d) ks (rest s p)) (.returned (.bool bb)) W') := by
    refine Lib.hid (CM.out.mono ?_)
    intro r W' hr
    cases hm : member (value d) ks (rest s p) with
    | error x =>
      rw [hm] at hr
      obtain ⟨q1, o1, v1, rfl, hS, hT⟩ := hr
      exact ⟨false, rfl, q1, o1, v1, rfl, hS, hT⟩
    | ok y =>
      obtain ⟨o1, r1, st1⟩ := y
      rw [hm] at hr
      obtain ⟨v1, rfl, hS, hT, hK⟩ := hr
      exact ⟨true, rfl, v1, rfl, hS, hT, HB.out.keep HS.out hT ⟨hbm.1, hbm.2.1⟩, HS.out.keep hT HKB.out hbm.2.2 (fun cs t f e => by cases e; decide), hK⟩
  clear h hb hdep hdd hkb hk CM hbm
  go_enter Tryz.func27, Tryz.ntmps27
  go_wp2_with (first | (go_at_call 28; refine CM2.out.mono ?_; rintro e1 W1 ⟨bb, rfl, hR⟩; have HR := Lib.hid hR; clear hR))
  go_ret
  exact HR.out
end
end Go.Proofs.YtkcfigfhbeohfaaGreatDoor.Tp
