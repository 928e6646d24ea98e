/- TextQuotes. -/
import Derived.Test.YtkcfigfhbeohfaaDoorTqj
namespace Go.Proofs.YtkcfigfhbeohfaaDoor.Tp
open Go Go.RowKit Go.Maps Go.Proofs.YtkcfigfhbeohfaaDoorW.PrintWords
set_option maxHeartbeats 8000000 in
set_option maxRecDepth 100000 in
theorem textQuotes_calls (W : World) (s : ByteArray) (hz : s.size ≤ 140737488351232) : Calls Tryd.prog 3 #[.string s] W fun e W' => e = .returned (.bool true) ∧ Below W.heap.size W W' := by
  by_cases hbig : 3000 < s.size
  · have d1 : decide ((3000 : Int) < (s.size : Int)) = true := by simp; omega
    go_enter Tryd.func3, Tryd.ntmps3
    go_wp2_with fail
    go_ret
    exact ⟨rfl, Below.refl _ _⟩
  · have d1 : decide ((3000 : Int) < (s.size : Int)) = false := by simp; omega
    have CQ := Lib.hid (quote_calls W s (by omega))
    have CR := Lib.hid (fun W => refquote_calls W s (by omega))
    have CM := Lib.hid (fun W => refnumber_calls W s (by omega))
    have HS := Lib.hid (show s.size ≤ 4611686018427387904 by omega)
    obtain ⟨q, hq⟩ : ∃ q, quote s.data.toList = q := ⟨_, rfl⟩
    rw [hq] at CQ CR
    clear hz hbig hq
    obtain ⟨Q, o, hQ⟩ : ∃ (Q : ByteArray) (o : Bool), quoteV q = .tuple #[.string Q, .bool o] := by cases q <;> exact ⟨_, _, rfl⟩
    rw [hQ] at CQ CR
    clear hQ
    cases hn : num s.data.toList with
    | some n =>
      have CN := Lib.hid (fun W => number_some s n W HS.out hn)
      rw [hn, show numV (some n) = .tuple #[.int .i64 n, .bool true] from rfl] at CM
      clear hn
      go_enter Tryd.func3, Tryd.ntmps3
      go_wp2_with (first | (go_at_call 8; refine CQ.out.mono ?_; rintro e1 W1 ⟨rfl, hb⟩; have E1 := Lib.hid hb; clear hb) | (go_at_call 9; refine (CR.out _).mono ?_; rintro e1 W2 ⟨rfl, hb⟩; have E2 := Lib.hid (E1.out.trans (hb.mono E1.out.size)); clear hb) | (go_at_call 10; refine (CN.out _).mono ?_; rintro e1 W3 ⟨rfl, hb⟩; have E3 := Lib.hid (E2.out.trans (hb.mono E2.out.size)); clear hb) | (go_at_call 11; refine (CM.out _).mono ?_; rintro e1 W' ⟨rfl, rfl⟩) | (go_at_call 12; refine (parses_calls _).mono ?_; rintro e1 W4 ⟨rfl, hb⟩; have E4 := Lib.hid (E3.out.trans (hb.mono E3.out.size)); clear hb))
      go_ret
      exact ⟨rfl, E4.out⟩
    | none =>
      have CN := Lib.hid (fun W => number_none s W HS.out hn)
      rw [hn, show numV none = .tuple #[.int .i64 0, .bool false] from rfl] at CM
      clear hn
      go_enter Tryd.func3, Tryd.ntmps3
      go_wp2_with (first | (go_at_call 8; refine CQ.out.mono ?_; rintro e1 W1 ⟨rfl, hb⟩; have E1 := Lib.hid hb; clear hb) | (go_at_call 9; refine (CR.out _).mono ?_; rintro e1 W2 ⟨rfl, hb⟩; have E2 := Lib.hid (E1.out.trans (hb.mono E1.out.size)); clear hb) | (go_at_call 10; refine (CN.out _).mono ?_; rintro e1 W3 ⟨rfl, hb⟩; have E3 := Lib.hid (E2.out.trans (hb.mono E2.out.size)); clear hb) | (go_at_call 11; refine (CM.out _).mono ?_; rintro e1 W' ⟨rfl, rfl⟩) | (go_at_call 12; refine (parses_calls _).mono ?_; rintro e1 W4 ⟨rfl, hb⟩; have E4 := Lib.hid (E3.out.trans (hb.mono E3.out.size)); clear hb))
      go_ret
      exact ⟨rfl, E4.out⟩
end Go.Proofs.YtkcfigfhbeohfaaDoor.Tp
