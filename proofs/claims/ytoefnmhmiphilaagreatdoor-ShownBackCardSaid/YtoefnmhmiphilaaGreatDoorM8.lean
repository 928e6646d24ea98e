/- Texts of the claim, merged. -/
import Derived.Test.YtoefnmhmiphilaaGreatDoorM1
import Derived.Shelf.SlSortCmp.WholeK
set_option linter.unusedVariables false
set_option linter.unusedSimpArgs false
namespace Go.Proofs.YtoefnmhmiphilaaGreatDoor.Srt
open Go Go.Shelf Go.RowKit Go.Sort Go.Proofs Go.Proofs.YtoefnmhmiphilaaGreatDoorW.PrintWords
section
variable {α : Type} (enc : α → List Value) (k : Nat)
theorem flat_len (hk : ∀ x, (enc x).length = k) (l : List α) : (l.flatMap enc).length = l.length * k := by
  induction l with
  | nil => simp
  | cons x l ih => rw [List.flatMap_cons, List.length_append, ih, hk, List.length_cons, Nat.add_mul, Nat.one_mul, Nat.add_comm]
theorem flat_get (hk : ∀ x, (enc x).length = k) : ∀ (l : List α) (i : Nat) (hi : i < l.length) (r : Nat), r < k → (l.flatMap enc)[i * k + r]? = (enc l[i])[r]?
  | x :: l, 0, _, r, hr => by rw [List.flatMap_cons, Nat.zero_mul, Nat.zero_add, List.getElem?_append_left (by rw [hk]; exact hr)]; rfl
  | x :: l, i + 1, hi, r, hr => by
    rw [List.flatMap_cons, List.getElem?_append_right (by rw [hk, Nat.add_mul]; omega), hk]
    have := flat_get hk l i (by simpa using hi) r hr
    simp only [List.getElem_cons_succ]
    rw [← this]
    congr 1
    rw [Nat.add_mul]; omega
variable [Inhabited α]
theorem flatK_list (hk : ∀ x, (enc x).length = k) (d : Array α) : (flatK enc k d).toList = d.toList.flatMap enc := by
  apply List.ext_getElem?
  intro t
  by_cases ht : t < d.size * k
  · have k0 : 0 < k := by
      rcases Nat.eq_zero_or_pos k with h | h
      · subst h; simp at ht
      · exact h
    have hq : t / k < d.toList.length := by rw [Array.length_toList]; exact Nat.div_lt_of_lt_mul (by rw [Nat.mul_comm]; exact ht)
    have hr : t % k < k := Nat.mod_lt _ k0
    have e : t = t / k * k + t % k := by rw [Nat.mul_comm, Nat.div_add_mod]
    have h1 : (flatK enc k d).toList[t]? = some (flatK enc k d)[t]! := by
      rw [Array.getElem?_toList, getElem!_pos _ t (by rw [size_flatK]; exact ht), Array.getElem?_eq_getElem]
    rw [h1, get_flatK enc k d t ht]
    have h2 := flat_get enc k hk d.toList (t / k) hq (t % k) hr
    rw [← e] at h2
    rw [h2, List.getElem?_eq_getElem (by rw [hk]; exact hr)]
    congr 1
    have h3 : d[t / k]! = d.toList[t / k] := by rw [getElem!_pos d (t / k) (by simpa using hq), Array.getElem_toList]
    rw [h3, getElem!_pos (enc d.toList[t / k]) (t % k) (by rw [hk]; exact hr)]
  · rw [List.getElem?_eq_none (by rw [Array.length_toList, size_flatK]; omega), List.getElem?_eq_none (by rw [flat_len enc k hk, Array.length_toList]; omega)]
theorem own_cur {W : World} {base T n c g : Nat} {xs : List Value} (ho : W.ownsRow base T k (.slice (some ⟨g, 0, none⟩) n c) n xs) :
    ∃ cur, W.heap[g]? = some (.cells cur T (0, 0)) ∧ cur.size = c * k ∧ n ≤ c ∧ cur.toList.take (n * k) = xs ∧ base ≤ g ∧ c ≤ maxLen := by
  rcases ho.2 with ⟨h, _⟩ | ⟨g', cap, cur, he, hb, hh, hnc, hcm, hcs, ht⟩
  · cases h
  · injection he with a1 a2 a3
    injection a1 with a1
    injection a1 with a1
    subst a1; subst a3
    exact ⟨cur, hh, hcs, hnc, ht, hb, hcm⟩
theorem own_holds (hk : ∀ x, (enc x).length = k) {W : World} {base T n c g : Nat} (d : Array α) (ho : W.ownsRow base T k (.slice (some ⟨g, 0, none⟩) n c) n (d.toList.flatMap enc)) (hn : d.size = n) : HoldsK enc k W g 0 d ∧ g < W.heap.size := by
  obtain ⟨cur, hh, hcs, hnc, ht, _⟩ := own_cur k ho
  refine ⟨fun j hj => ?_, blk_lt hh⟩
  rw [size_flatK, hn] at hj
  have hle := Nat.mul_le_mul_right k hnc
  rw [Nat.zero_add]
  refine ⟨(blk_cell hh j).trans ?_, blk_frozen hh j⟩
  rw [← Array.getElem?_toList, ← List.getElem?_take_of_lt (show j < n * k from hj), ht, ← flatK_list enc k hk, Array.getElem?_toList]
  rw [Array.getElem?_eq_getElem (by rw [size_flatK, hn]; exact hj), getElem!_pos _ j (by rw [size_flatK, hn]; exact hj)]
  rfl
theorem own_sorted (hk : ∀ x, (enc x).length = k) {W : World} {base T n c g : Nat} {xs : List Value} (ho : W.ownsRow base T k (.slice (some ⟨g, 0, none⟩) n c) n xs) (m : Nat) (os : Array Obj) (d' : Array α) (hd : d'.size = n) :
    (sortWorldK enc k W g 0 m d' os).ownsRow base T k (.slice (some ⟨g, 0, none⟩) n c) n (d'.toList.flatMap enc) ∧ W.grownBy (sortWorldK enc k W g 0 m d' os) (some g) := by
  obtain ⟨cur, hh, hcs, hnc, ht, hb, hcm⟩ := own_cur k ho
  have hlt := blk_lt hh
  have hm : ∀ i, (putRowK enc k (Go.Sort.ahead W m) g 0 d').heap[i]? = if g = i then (W.heap[i]?).map (onCells (putCells id 0 (flatK enc k d'))) else W.heap[i]? := by
    intro i
    show (W.heap.modify g (onCells (putCells id 0 (flatK enc k d'))))[i]? = _
    rw [Array.getElem?_modify]
  have hsz : (putRowK enc k (Go.Sort.ahead W m) g 0 d').heap.size = W.heap.size := by
    show (W.heap.modify g _).size = _
    rw [Array.size_modify]
  have hsw : ∀ i, i < W.heap.size → (sortWorldK enc k W g 0 m d' os).heap[i]? = (putRowK enc k (Go.Sort.ahead W m) g 0 d').heap[i]? := by
    intro i hi
    show ((putRowK enc k (Go.Sort.ahead W m) g 0 d').heap ++ os)[i]? = _
    rw [Array.getElem?_append_left (by rw [hsz]; exact hi)]
  have hle := Nat.mul_le_mul_right k hnc
  have hF : (flatK enc k d').size = n * k := by rw [size_flatK, hd]
  refine ⟨⟨by rw [flat_len enc k hk, Array.length_toList, hd], .inr ⟨g, c, putCells id 0 (flatK enc k d') cur, rfl, hb, ?_, hnc, hcm, by simp [putCells, hcs], ?_⟩⟩, ⟨rfl, rfl, rfl, ?_, fun i hi hne => ?_⟩⟩
  · rw [hsw g hlt, hm g, if_pos rfl, hh]; rfl
  · rw [← flatK_list enc k hk]
    apply List.ext_getElem?
    intro t
    by_cases ht2 : t < n * k
    · rw [List.getElem?_take_of_lt ht2, Array.getElem?_toList, Array.getElem?_toList]
      unfold putCells
      rw [Array.getElem?_mapIdx, Array.getElem?_eq_getElem (show t < cur.size by omega), Array.getElem?_eq_getElem (show t < (flatK enc k d').size by rw [hF]; exact ht2)]
      simp only [Option.map_some]
      rw [if_pos ⟨Nat.zero_le _, by rw [hF]; omega⟩, Nat.sub_zero, getElem!_pos _ t (by rw [hF]; exact ht2)]
      rfl
    · rw [List.getElem?_eq_none (by rw [List.length_take]; omega), List.getElem?_eq_none (by rw [Array.length_toList, hF]; omega)]
  · show W.heap.size ≤ ((putRowK enc k (Go.Sort.ahead W m) g 0 d').heap ++ os).size
    rw [Array.size_append, hsz]; omega
  · rw [hsw i hi, hm i, if_neg (fun e => hne (by rw [e]))]
theorem sort_own {P : Program} {ρ : Ren} (L : SlLaysF0.n6 P ρ) (aE : ∀ w, (isAgg (ρ.t 24)).run P w = .ok true w) (zE : ∀ w, (Go.sizeOf (ρ.t 24)).run P w = .ok k w) (hk : ∀ x, (enc x).length = k) (h1 : ∀ x, ∀ v ∈ enc x, v.oneCell' = true) (cf : α → α → Int) (hO : SWO (ltOf cf)) (gf : Nat)
    (eg : ∀ args w, (callFunc gf args).run P w = .ok (.enter gf args) w) (hcmp : ∀ (V : World) (x y : α), Calls P gf #[.agg (enc x).toArray, .agg (enc y).toArray] V fun e w' => e = .returned (.int .i64 (cf x y)) ∧ ∃ q os', w' = grow (V.drewN q) os')
    {W : World} {base T n c g : Nat} (l : List α) (ho : W.ownsRow base T k (.slice (some ⟨g, 0, none⟩) n c) n (l.flatMap enc)) (hn : l.length = n) (hsz : n < 4611686018427387904) :
    Calls P (ρ.f 6) #[.slice (some ⟨g, 0, none⟩) n c, .func (.func gf) #[] #[]] W fun e W' => e = .returned (.tuple #[]) ∧ ∃ l' : List α, l'.Perm l ∧ l'.Pairwise (fun a b => ¬ cf b a < 0) ∧ W'.ownsRow base T k (.slice (some ⟨g, 0, none⟩) n c) n (l'.flatMap enc) ∧ W.grownBy W' (some g) := by
  have hs : l.toArray.size = n := by simpa using hn
  obtain ⟨hH, hlt⟩ := own_holds enc k hk l.toArray ho hs
  have hc := AnyQ.slices_SortFunc L k aE zE enc hk h1 cf hO gf #[] g 0 c l.toArray W eg (fun m os dk _ x y => hcmp _ x y) hH hlt (by rw [hs]; exact hsz)
  rw [hs] at hc
  refine hc.mono ?_
  rintro e W' ⟨rfl, d', m, os, hp, hss, rfl⟩
  have hd : d'.size = n := by rw [hp.1, hs]
  obtain ⟨o1, g1⟩ := own_sorted enc k hk ho m os d' hd
  refine ⟨rfl, d'.toList, ?_, ?_, o1, g1⟩
  · have := hp.2.2
    rw [Array.extract_eq_self_of_le (by omega), Array.extract_eq_self_of_le (by omega)] at this
    simpa using this
  · rw [List.pairwise_iff_getElem]
    intro i j hi hj hij
    have := hss i j (Nat.zero_le _) hij (by rw [Array.length_toList, hd] at hj; exact hj)
    rw [getElem!_pos d' i (by simpa using hi), getElem!_pos d' j (by simpa using hj)] at this
    simpa [ltOf, Array.getElem_toList] using this
end
end Go.Proofs.YtoefnmhmiphilaaGreatDoor.Srt
