/- The reader's state, whether something was wrong or not: what each small method makes of it. -/
import Derived.Test.YtkcfigfhbeohfaaGreatDoorTrj
namespace Go.Proofs.YtkcfigfhbeohfaaGreatDoor.Tp
open Go Go.RowKit Go.Maps Go.Proofs.YtkcfigfhbeohfaaGreatDoorW.PrintWords
/-- What a state is: what was read and what is left, or what was wrong. -/
def XS (s : ByteArray) (o : List Nd) (a : Int) (x : R (List Nd)) (q : Nat) (o2 : List Nd) (c a2 : Int) : Prop :=
  match x with
  | .ok (ob, r) => o2 = o ++ ob ∧ c = 0 ∧ a2 = a ∧ q + r.length = s.size ∧ rest s q = r
  | .error e => c = e.1 ∧ a2 = (s.size : Int) - e.2 ∧ e.1 ≠ 0
def RS (N g base : Nat) (s : ByteArray) (a : Int) (W0 : World) (v0 : Value) (o : List Nd) (x : R (List Nd)) (W' : World) : Prop :=
  ∃ q o2 c a2 v', Rd W' g base s q o2 c a2 v' ∧ Stp X0 g W0 v0 W' v' ∧ o2.length ≤ N ∧ XS s o a x q o2 c a2
def xskip : R (List Nd) → R (List Nd)
  | .ok (ob, r) => .ok (ob, skip r)
  | .error e => .error e
def xsign (b : UInt8) : R (List Nd) → R (List Nd)
  | .ok (ob, r) => match takeB b r with
    | .ok t => .ok (ob, t)
    | .error e => .error e
  | .error e => .error e
def xput (n : Nd) : R (List Nd) → R (List Nd)
  | .ok (ob, r) => .ok (ob ++ [n], r)
  | .error e => .error e
def xwrong (e : Int × Nat) : R (List Nd) → R (List Nd)
  | .ok _ => .error e
  | .error e' => .error e'
def xval (d : Nat) : R (List Nd) → R (List Nd)
  | .ok (ob, r) => match value d r with
    | .ok (p, r1) => .ok (ob ++ p, r1)
    | .error e => .error e
  | .error e => .error e
def xdrop : R (List Nd) → R (List Nd)
  | .ok (ob, r) => .ok (ob, r.tail)
  | .error e => .error e
section
variable {W W0 : World} {g base : Nat} {s : ByteArray} {p q N : Nat} {o o2 : List Nd} {c a a2 : Int} {v v0 : Value} {x : R (List Nd)}
theorem RS.mk (h : Rd W g base s q o2 c a2 v) (ht : Stp X0 g W0 v0 W v) (hn : o2.length ≤ N) (hx : XS s o a x q o2 c a2) : RS N g base s a W0 v0 o x W := ⟨q, o2, c, a2, v, h, ht, hn, hx⟩
theorem RS.opn (h : RS N g base s a W0 v0 o x W) : ∃ q o2 c a2 v', Rd W g base s q o2 c a2 v' ∧ Stp X0 g W0 v0 W v' ∧ o2.length ≤ N ∧ XS s o a x q o2 c a2 := h
theorem RS.up (h : RS N g base s a W0 v0 o x W) {M : Nat} (hm : N ≤ M) : RS M g base s a W0 v0 o x W := by
  obtain ⟨q, o2, c, a2, v, h1, h2, h3, h4⟩ := h
  exact ⟨q, o2, c, a2, v, h1, h2, Nat.le_trans h3 hm, h4⟩
/-- What is of another kind stays as it was. -/
def Kr (W W' : World) : Prop := W.heap.size ≤ W'.heap.size ∧ ∀ (b : Nat) (cs : Array Value) (t : TypeId) (f : Nat × Nat), W.heap[b]? = some (.cells cs t f) → t ≠ 45 ∧ t ≠ 40 → W'.heap[b]? = some (.cells cs t f)
theorem Rd.kr (h : Rd W g base s p o c a v) {W' : World} {v' : Value} (hs : Stp X0 g W v W' v') : Kr W W' := ⟨hs.kp.size, fun b cs t f hb ht => h.keep hs hb (fun x => x) (fun cs' t' f' e => by cases e; exact ht)⟩
theorem Kr.refl (W : World) : Kr W W := ⟨Nat.le_refl _, fun _ _ _ _ h _ => h⟩
theorem Kr.sz {W' : World} (h : Kr W W') : W.heap.size ≤ W'.heap.size := h.1
theorem Kr.row {W' : World} (h : Kr W W') {B t size n : Nat} {vo : Value} {xs : List Value} (ho : W.ownsRow B t size vo n xs) (ht : t ≠ 45 ∧ t ≠ 40) : W'.ownsRow B t size vo n xs := by
  refine ⟨ho.1, ?_⟩
  rcases ho.2 with h1 | ⟨b, cap, cur, rfl, hb, hh, r⟩
  · exact .inl h1
  · exact .inr ⟨b, cap, cur, rfl, hb, h.2 _ _ _ _ hh ht, r⟩
theorem XS.code_ok {y : List Nd × List UInt8} (h : XS s o a (.ok y) q o2 c a2) : (c == 0) = true := by
  obtain ⟨_, h, _⟩ := h; subst h; rfl
theorem XS.code_err {e : Int × Nat} (h : XS s o a (.error e) q o2 c a2) : (c == 0) = false := by
  obtain ⟨h, _, h2⟩ := h; subst h; rw [beq_eq_false_iff_ne]; exact h2
theorem rskip_gen (h : RS N g base s a W0 v0 o x W) (hz : s.size ≤ 4294967296) :
    Calls Tryz.prog 13 #[.pointer (some ⟨g, 0, none⟩)] W fun r W' => r = .returned (.tuple #[]) ∧ RS N g base s a W0 v0 o (xskip x) W' ∧ Kr W W' := by
  obtain ⟨q, o2, c, a2, v, h1, h2, h3, h4⟩ := h
  refine (rskip_calls h1 X0 hz).mono ?_
  rintro r W' ⟨rfl, hS, hT⟩
  refine ⟨rfl, ⟨_, o2, c, a2, v, hS, h2.trans hT, h3, ?_⟩, h1.kr hT⟩
  cases x with
  | error e => exact h4
  | ok y =>
    obtain ⟨ob, r⟩ := y
    obtain ⟨e1, e2, e3, e4, e5⟩ := h4
    have hq : q ≤ s.size := by omega
    obtain ⟨l1, l2⟩ := adv_le s hq
    rw [e5] at l2
    refine ⟨e1, e2, e3, ?_, l2⟩
    have := rest_len s (adv s q)
    rw [l2] at this
    omega
theorem rsign_gen (h : RS N g base s a W0 v0 o x W) (hz : s.size ≤ 4294967296) (b : UInt8) (n : Int) (hn : (b.toNat : Int) = n) :
    Calls Tryz.prog 50 #[.pointer (some ⟨g, 0, none⟩), .int .u8 n] W fun r W' => r = .returned (.tuple #[]) ∧ RS N g base s a W0 v0 o (xsign b x) W' ∧ Kr W W' := by
  subst hn
  obtain ⟨q, o2, c, a2, v, h1, h2, h3, h4⟩ := h
  cases x with
  | error e =>
    obtain ⟨rfl, e2, e3⟩ := h4
    refine (rsign_bad h1 e3 X0 hz b).mono ?_
    rintro r W' ⟨rfl, ⟨q', hS⟩, hT⟩
    exact ⟨rfl, ⟨q', o2, _, a2, v, hS, h2.trans hT, h3, rfl, e2, e3⟩, h1.kr hT⟩
  | ok y =>
    obtain ⟨ob, r⟩ := y
    obtain ⟨rfl, rfl, rfl, e4, e5⟩ := h4
    have hq : q ≤ s.size := by omega
    cases ht : takeB b r with
    | ok t =>
      refine (rsign_ok h1 hq X0 hz b t (by rw [e5]; exact ht)).mono ?_
      rintro r' W' ⟨rfl, hS, hT⟩
      obtain ⟨cc, ecc, _⟩ := takeB_ext ht
      have hs := rest_suffix (s := s) (p := q) (c := cc ++ [b]) (x := t) hq (by rw [e5, ecc]; simp)
      have hl := congrArg List.length ecc
      rw [List.length_append, List.length_cons] at hl
      exact ⟨rfl, ⟨_, _, 0, a2, v, hS, h2.trans hT, h3, by simp only [xsign, ht]; exact ⟨rfl, rfl, rfl, by omega, hs.1⟩⟩, h1.kr hT⟩
    | error e =>
      refine (rsign_err h1 hq X0 hz b e (by rw [e5]; exact ht)).mono ?_
      rintro r' W' ⟨rfl, ⟨q', hq', hS⟩, hT⟩
      exact ⟨rfl, ⟨q', _, _, _, v, hS, h2.trans hT, h3, by simp only [xsign, ht]; exact ⟨rfl, rfl, takeB_code ht⟩⟩, h1.kr hT⟩
theorem rput_gen (h : RS N g base s a W0 v0 o x W) (hl : N ≤ 4294967296) (k : Int) (t : ByteArray) (n d : Int) :
    Calls Tryz.prog 33 #[.pointer (some ⟨g, 0, none⟩), .int .i64 k, .string t, .int .i64 n, .int .i64 d] W fun r W' => r = .returned (.tuple #[]) ∧ RS (N + 1) g base s a W0 v0 o (xput ⟨k, t, n, d⟩ x) W' ∧ Kr W W' := by
  obtain ⟨q, o2, c, a2, v, h1, h2, h3, h4⟩ := h
  refine (rput_calls h1 X0 k t n d (by omega)).mono ?_
  rintro r W' ⟨v', rfl, hS, hT⟩
  refine ⟨rfl, ⟨q, _, c, a2, v', hS, h2.trans hT, by rw [List.length_append, List.length_singleton]; omega, ?_⟩, h1.kr hT⟩
  cases x with
  | error e => exact h4
  | ok y =>
    obtain ⟨ob, r⟩ := y
    obtain ⟨rfl, e2, e3, e4, e5⟩ := h4
    exact ⟨by rw [List.append_assoc], e2, e3, e4, e5⟩
theorem rwrong_gen (h1 : Rd W g base s q o2 c a2 v) (h2 : Stp X0 g W0 v0 W v) (h3 : o2.length ≤ N) (h4 : XS s o a x q o2 c a2) (e : Int) (he : e ≠ 0) (k : Nat) (qq : Int) (hq : ∀ ob r, x = .ok (ob, r) → qq = (s.size : Int) - k) :
    Calls Tryz.prog 14 #[.pointer (some ⟨g, 0, none⟩), .int .i64 e, .int .i64 qq] W fun r W' => r = .returned (.tuple #[]) ∧ RS N g base s a W0 v0 o (xwrong (e, k) x) W' ∧ Kr W W' := by
  cases x with
  | error e' =>
    obtain ⟨rfl, e2, e3⟩ := h4
    refine (wrong_bad h1 e3 e qq).mono ?_
    rintro r W' ⟨rfl, rfl⟩
    exact ⟨rfl, ⟨q, o2, _, a2, v, h1, h2, h3, rfl, e2, e3⟩, Kr.refl _⟩
  | ok y =>
    obtain ⟨ob, r⟩ := y
    obtain ⟨rfl, rfl, rfl, e4, e5⟩ := h4
    refine (wrong_calls h1 X0 e qq).mono ?_
    rintro r' W' ⟨rfl, hS, hT⟩
    exact ⟨rfl, ⟨q, _, e, qq, v, hS, h2.trans hT, h3, rfl, hq _ _ rfl, he⟩, h1.kr hT⟩
/-- The contract of value where it may go d deep. -/
def VR (d : Nat) : Prop := ∀ (W : World) (g base : Nat) (s : ByteArray) (p : Nat) (o : List Nd) (a : Int) (v : Value) (N : Nat), Rd W g base s p o 0 a v → p ≤ s.size → s.size ≤ 1073741824 → o.length + (s.size - p) + 3 * (d + 1) ≤ N → N ≤ 4294967296 →
  Calls Tryz.prog 11 #[.pointer (some ⟨g, 0, none⟩), .int .i64 (21 - (d : Int))] W fun r W' => r = .returned (.tuple #[]) ∧ RS N g base s a W v o (value d (rest s p)) W'
set_option maxRecDepth 100000 in
set_option maxHeartbeats 4000000 in
theorem rvalue_bad (h : Rd W g base s p o c a v) (hc : c ≠ 0) (dep : Int) : Calls Tryz.prog 11 #[.pointer (some ⟨g, 0, none⟩), .int .i64 dep] W fun r W' => r = .returned (.tuple #[]) ∧ W' = W := by
  have H := Lib.hid h
  have hb : (c == 0) = false := by rw [beq_eq_false_iff_ne]; exact hc
  clear h hc
  go_enter Tryz.func11, Tryz.ntmps11
  go_wp2_with (first | (go_at_call 12; refine (rok_calls H.out).mono ?_; rw [hb]; rintro e1 W' ⟨rfl, hw⟩; have hw2 := hw.symm; clear hw; subst hw2))
  refine bodyPost_ret (results_none rfl _ _ _) rfl ?_
  exact ⟨rfl, rfl⟩
theorem rvalue_gen {d : Nat} (hV : VR d) (h : RS N g base s a W0 v0 o x W) (hz : s.size ≤ 1073741824) {M : Nat} (hNM : N ≤ M) (hM : M ≤ 4294967296) (hx : ∀ ob r, x = .ok (ob, r) → o.length + ob.length + r.length + 3 * (d + 1) ≤ M) (dep : Int) (hd : 21 - (d : Int) = dep) :
    Calls Tryz.prog 11 #[.pointer (some ⟨g, 0, none⟩), .int .i64 dep] W fun r W' => r = .returned (.tuple #[]) ∧ RS M g base s a W0 v0 o (xval d x) W' ∧ Kr W W' := by
  subst hd
  obtain ⟨q, o2, c, a2, v, h1, h2, h3, h4⟩ := h
  cases x with
  | error e =>
    obtain ⟨rfl, e2, e3⟩ := h4
    refine (rvalue_bad h1 e3 _).mono ?_
    rintro r W' ⟨rfl, rfl⟩
    exact ⟨rfl, ⟨q, o2, _, a2, v, h1, h2, by omega, rfl, e2, e3⟩, Kr.refl _⟩
  | ok y =>
    obtain ⟨ob, r⟩ := y
    obtain ⟨rfl, rfl, rfl, e4, e5⟩ := h4
    have hb := hx _ _ rfl
    refine (hV W g base s q _ a2 v M h1 (by omega) hz (by rw [List.length_append]; omega) hM).mono ?_
    rintro r' W' ⟨rfl, q', o3, c', a3, v', k1, k2, k3, k4⟩
    rw [e5] at k4
    refine ⟨rfl, ⟨q', o3, c', a3, v', k1, h2.trans k2, k3, ?_⟩, h1.kr k2⟩
    show XS s o a2 (match value d r with | .ok (p, r1) => .ok (ob ++ p, r1) | .error e => .error e) q' o3 c' a3
    cases hv : value d r with
    | error e => rw [hv] at k4; exact k4
    | ok y =>
      obtain ⟨pp, r1⟩ := y
      rw [hv] at k4
      obtain ⟨f1, f2, f3, f4, f5⟩ := k4
      exact ⟨by rw [f1, List.append_assoc], f2, f3, f4, f5⟩
end
end Go.Proofs.YtkcfigfhbeohfaaGreatDoor.Tp
