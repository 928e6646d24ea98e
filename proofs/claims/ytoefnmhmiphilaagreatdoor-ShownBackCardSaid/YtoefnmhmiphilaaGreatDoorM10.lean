/- Texts of the claim, merged. -/
import Derived.Test.YtoefnmhmiphilaaGreatDoorM7
import Derived.Test.YtoefnmhmiphilaaGreatDoorM8
import Derived.Test.YtoefnmhmiphilaaGreatDoorM9
set_option linter.unusedVariables false
set_option linter.unusedSimpArgs false
namespace Go.Proofs.YtoefnmhmiphilaaGreatDoor.Tp
open Go Go.RowKit Go.Maps Go.Proofs.YtoefnmhmiphilaaGreatDoorW.PrintWords
instance : Inhabited Mt := ⟨.mk ⟨0, ⟨#[]⟩, 0, 0⟩ ⟨none, 0, 0⟩ []⟩
def encM (m : Mt) : List Value := cellsV m.tv
theorem encM_len (m : Mt) : (encM m).length = 6 := cellsV_len _
theorem encM_one (m : Mt) : ∀ v ∈ encM m, v.oneCell' = true := by
  intro u hu
  unfold encM at hu
  simp [cellsV, cellsN] at hu
  rcases hu with rfl | rfl | rfl | rfl | rfl | rfl <;> rfl
theorem encM_flat (l : List Mt) : l.flatMap encM = encVs (l.map Mt.tv) := by unfold encVs; rw [List.flatMap_map]; rfl
def keyM (m : Mt) : List UInt8 := m.nd.f1.data.toList
theorem key_tr (m : Mt) : m.tr.key = keyM m := by unfold Tr.key keyM; rw [tr_nd]
def cfM (x y : Mt) : Int := cmpL (keyM x) (keyM y)
theorem ltM (x y : Mt) : Go.Proofs.ltOf cfM x y = Op.bytesLess (keyM x) (keyM y) := by
  unfold Go.Proofs.ltOf cfM cmpL
  cases h1 : Op.bytesLess (keyM x) (keyM y)
  · cases h2 : Op.bytesLess (keyM y) (keyM x) <;> simp
  · simp
theorem swoM : Go.Sort.SWO (Go.Proofs.ltOf cfM) where
  irrefl x := by rw [ltM, bl_irrefl]
  trans x y z h1 h2 := by rw [ltM] at *; exact bl_trans _ _ _ h1 h2
  ntrans x y z h1 h2 := by
    rw [ltM] at *
    cases h3 : Op.bytesLess (keyM x) (keyM z) with
    | false => rfl
    | true =>
      cases h4 : Op.bytesLess (keyM y) (keyM x) with
      | true => rw [bl_trans _ _ _ h4 h3] at h2; cases h2
      | false =>
        have e := bl_tri _ _ h1 h4
        rw [e, h2] at h3; cases h3
theorem cmpM (V : World) (x y : Mt) : Calls Tryz.prog 45 #[.agg (encM x).toArray, .agg (encM y).toArray] V fun e w' => e = .returned (.int .i64 (cfM x y)) ∧ ∃ q os', w' = Go.Sort.grow (V.drewN q) os' := by
  obtain ⟨⟨f0, f1, f2, f3⟩, ⟨sA, sn, sc⟩, b⟩ := x
  obtain ⟨⟨g0, g1, g2, g3⟩, ⟨tA, tn, tc⟩, b'⟩ := y
  have h := closure_calls V f0 f2 f3 (deep (Mt.mk ⟨f0, f1, f2, f3⟩ ⟨sA, sn, sc⟩ b).tr : Int) g0 g2 g3 (deep (Mt.mk ⟨g0, g1, g2, g3⟩ ⟨tA, tn, tc⟩ b').tr : Int) f1 g1 sA tA sn sc tn tc
  refine h.mono ?_
  rintro e w' ⟨rfl, hw⟩
  rw [Go.Sort.alloc_eq_grow, Go.Sort.alloc_eq_grow, Go.Sort.grow_grow] at hw
  exact ⟨rfl, 0, _, hw⟩
theorem callM : ∀ args w, (callFunc 45 args).run Tryz.prog w = .ok (.enter 45 args) w := Go.Proofs.enters_of Tryz.func45 (by kernel_rfl) rfl
theorem sortfunc_calls {W : World} {base n c g : Nat} (l : List Mt) (ho : W.ownsRow base 48 6 (.slice (some ⟨g, 0, none⟩) n c) n (encVs (l.map Mt.tv))) (hn : l.length = n) (hsz : n < 4611686018427387904) :
    Calls Tryz.prog 44 #[.slice (some ⟨g, 0, none⟩) n c, .func (.func 45) #[] #[]] W fun e W' => e = .returned (.tuple #[]) ∧ ∃ l' : List Mt, l'.Perm l ∧ l'.Pairwise (fun a b => ¬ cfM b a < 0) ∧ W'.ownsRow base 48 6 (.slice (some ⟨g, 0, none⟩) n c) n (encVs (l'.map Mt.tv)) ∧ W.grownBy W' (some g) := by
  have h := Srt.sort_own encM 6 Tryz.sortL Tryz.isAgg48 Tryz.sizeOf48 encM_len encM_one cfM swoM _ callM cmpM (base := base) (T := 48) (c := c) l (by rw [encM_flat]; exact ho) hn hsz
  refine h.mono ?_
  rintro e W' ⟨he, l', h1, h2, h3, h4⟩
  exact ⟨he, l', h1, h2, by rw [← encM_flat]; exact h3, h4⟩
structure SoR (m : Mt) (base : Nat) (W W' : World) (m' : Mt) : Prop where
  tr : m'.tr = sortT m.tr
  sl : m'.sl = m.sl
  bl : m'.bl.Perm m.bl
  hold : Hold W' base m'
  kp : Kp (fun k => k ∈ m.bl) W W'
theorem SoR.cells {m m' : Mt} {base : Nat} {W W' : World} (h : SoR m base W W' m') (ho : okT m.tr = true) : cellsV m'.tv = cellsV m.tv := by
  have h1 : m'.nd = m.nd := by rw [← tr_nd m', h.tr, nd_sortT, tr_nd]
  rw [tv_cells, tv_cells, h1, h.sl, h.tr, (sort_facts _ ho).2.1]
structure SL (base : Nat) (s : Sl) (kids ks : List Mt) (j : Nat) (W V : World) : Prop where
  tr : trs ks = (trs (kids.take j)).map sortT
  cells : encVs (ks.map Mt.tv) = encVs ((kids.take j).map Mt.tv)
  bl : (bls ks).Perm (bls (kids.take j))
  hold : Holds V base ks
  rest : Holds V base (kids.drop j)
  row : V.ownsRow base 48 6 (.slice s.A s.n s.c) s.n (encVs (kids.map Mt.tv))
  kp : Kp (fun k => k ∈ bls (kids.take j)) W V
theorem SL.below {base : Nat} {s : Sl} {kids ks : List Mt} {j : Nat} {W V V' : World} (h : SL base s kids ks j W V) (hb : Below V.heap.size V V') : SL base s kids ks j W V' :=
  ⟨h.tr, h.cells, h.bl, h.hold.below hb, h.rest.below hb, own_bel h.row hb (Nat.le_refl _), h.kp.trans (T := fun _ => False) (Kp.of_below hb) (fun _ _ f => f.elim)⟩
theorem SL.start {base : Nat} {s : Sl} {nn : Nd} {kids : List Mt} {W : World} (h : Hold W base (.mk nn s kids)) : SL base s kids [] 0 W W := by
  obtain ⟨h1, h2, h3⟩ := h.out_
  exact ⟨rfl, rfl, by simp [bls], trivial, by rw [List.drop_zero]; exact Holds_all.2 h3, h2, Kp.refl _ _⟩
theorem SL.step {base : Nat} {s : Sl} {kids ks : List Mt} {j : Nat} {W V V' : World} {m' : Mt} (h : SL base s kids ks j W V) (hj : j < kids.length) (hr : SoR kids[j] base V V' m') (hok : okT kids[j].tr = true) (hnd : ((Value.slice s.A s.n s.c).ownBlock.toList ++ bls kids).Nodup) : SL base s kids (ks ++ [m']) (j + 1) W V' := by
  have htk : kids.take (j + 1) = kids.take j ++ [kids[j]] := List.take_succ_eq_append_getElem hj
  have hsp : kids = kids.take j ++ kids[j] :: kids.drop (j + 1) := by rw [← List.drop_eq_getElem_cons hj, List.take_append_drop]
  obtain ⟨hn1, hn2, hn3⟩ := List.nodup_append.1 hnd
  have hb := congrArg bls hsp
  rw [bls_append, bls] at hb
  rw [hb] at hn2
  obtain ⟨_, n2, n3⟩ := List.nodup_append.1 hn2
  obtain ⟨_, _, n4⟩ := List.nodup_append.1 n2
  refine ⟨by rw [htk, trs_append, trs_append, h.tr, List.map_append]; simp [trs, hr.tr], ?_, ?_, Holds_all.2 fun m hm => ?_, h.rest |> fun hrest => ?_, own_move h.row (fun k hk => hr.kp.block k (own_lt h.row k hk) (fun hk2 => ?_)), ?_⟩
  · rw [htk, List.map_append, List.map_append]
    unfold encVs
    rw [List.flatMap_append, List.flatMap_append]
    have := h.cells
    unfold encVs at this
    rw [this]
    simp [hr.cells hok]
  · rw [htk, bls_append, bls_append]
    refine List.Perm.append h.bl ?_
    simpa [bls] using hr.bl
  · rcases List.mem_append.1 hm with hm | hm
    · refine Hold.move m (Holds_all.1 h.hold m hm) (fun k hk => hr.kp.block k (Hold.lt m (Holds_all.1 h.hold m hm) k hk).2.1 (fun hk2 => ?_))
      exact n3 k (h.bl.mem_iff.1 (bls_mem hm k hk)) k (List.mem_append.2 (.inl hk2)) rfl
    · simp at hm; subst hm; exact hr.hold
  · refine Holds_all.2 fun m hm => ?_
    have hm0 : m ∈ kids.drop j := by rw [List.drop_eq_getElem_cons hj]; exact List.mem_cons_of_mem _ hm
    refine Hold.move m (Holds_all.1 hrest m hm0) (fun k hk => hr.kp.block k (Hold.lt m (Holds_all.1 hrest m hm0) k hk).2.1 (fun hk2 => ?_))
    exact n4 k hk2 k (bls_mem hm k hk) rfl
  · exact hn3 k (by rw [Option.mem_toList]; exact hk) k (by rw [hb]; exact List.mem_append.2 (.inr (List.mem_append.2 (.inl hk2)))) rfl
  · exact (h.kp.mono (fun i _ hi => by rw [htk, bls_append]; exact List.mem_append.2 (.inl hi))).trans hr.kp (fun i _ hi => by rw [htk, bls_append]; simp [bls, hi])
theorem SL.done {base : Nat} {s : Sl} {nn : Nd} {kids ks : List Mt} {W V : World} (h : SL base s kids ks kids.length W V) (hs : s.n = kids.length) (h7 : nn.f0 ≠ 7) : SoR (.mk nn s kids) base W V (.mk nn s ks) := by
  have e : kids.take kids.length = kids := List.take_length
  have hl : ks.length = kids.length := by have := congrArg List.length h.tr; rw [List.length_map, trs_length, trs_length, e] at this; exact this
  refine ⟨?_, rfl, ?_, Hold.mk_ (by rw [hs, hl]) ?_ (Holds_all.1 h.hold), h.kp.mono (fun i _ hi => ?_)⟩
  · rw [Mt.tr, Mt.tr, sortT, if_neg h7, sortTs_map, h.tr, e]
  · rw [Mt.bl, Mt.bl]
    have := h.bl
    rw [e] at this
    exact List.Perm.append_left _ this
  · rw [h.cells, e]; exact h.row
  · rw [e] at hi; rw [Mt.bl]; exact List.mem_append.2 (.inr hi)
theorem SL.sorted {base : Nat} {s : Sl} {nn : Nd} {kids ks l' : List Mt} {W V V' : World} (h : SL base s kids ks kids.length W V) (hs : s.n = kids.length) (h7 : nn.f0 = 7) (hok : okT (Mt.mk nn s kids).tr = true) (hnd : (Mt.mk nn s kids).bl.Nodup) (hp : l'.Perm ks) (hw : l'.Pairwise (fun a b => ¬ cfM b a < 0))
    (ho : V'.ownsRow base 48 6 (.slice s.A s.n s.c) s.n (encVs (l'.map Mt.tv))) {g : Nat} (hg : V.grownBy V' (some g)) (hgo : (Value.slice s.A s.n s.c).ownBlock = some g) : SoR (.mk nn s kids) base W V' (.mk nn s l') := by
  have e : kids.take kids.length = kids := List.take_length
  have htr := h.tr
  have hbl := h.bl
  have hkp := h.kp
  rw [e] at htr hbl hkp
  have hl : ks.length = kids.length := by have := congrArg List.length htr; rw [List.length_map, trs_length, trs_length] at this; exact this
  have hkeys : ((trs ks).map Tr.key).Nodup := by
    rw [htr, List.map_map]
    have : (Tr.key ∘ sortT) = Tr.key := funext fun t => key_sortT t
    rw [this]
    rw [Mt.tr, okT] at hok
    simp only [Bool.and_eq_true] at hok
    have hf := hok.1.2
    unfold fits keysOk at hf
    simp only [Bool.and_eq_true, Bool.or_eq_true, decide_eq_true_eq] at hf
    rcases hf.2 with h1 | h1
    · simp [h7] at h1
    · exact h1
  have hpt : (trs l').Perm (trs ks) := by rw [trs_map, trs_map]; exact hp.map _
  have hk2 : ((trs l').map Tr.key).Nodup := (hpt.map Tr.key).nodup_iff.2 hkeys
  have hsorted : (trs l').Pairwise keyLt := by
    rw [trs_map] at hk2 ⊢
    rw [List.pairwise_map]
    rw [List.map_map] at hk2
    have hk3 : l'.Pairwise (fun a b => a.tr.key ≠ b.tr.key) := by
      have := hk2
      unfold List.Nodup at this
      rw [List.pairwise_map] at this
      exact this
    refine (hw.and hk3).imp ?_
    rintro a b ⟨h1, h2⟩
    unfold keyLt
    rw [key_tr, key_tr] at *
    have h3 : Op.bytesLess (keyM b) (keyM a) = false := by
      rw [← ltM]; unfold Go.Proofs.ltOf; simpa using h1
    cases h4 : Op.bytesLess (keyM a) (keyM b) with
    | true => rfl
    | false => exact absurd (bl_tri _ _ h4 h3) h2
  have hby : trs l' = byKey (trs ks) := sorted_unique (hpt.trans (byKey_perm _).symm) hsorted (byKey_sorted hkeys)
  have hnd2 := hnd
  rw [Mt.bl] at hnd2
  obtain ⟨_, _, hdis⟩ := List.nodup_append.1 hnd2
  have hgb : ∀ i ∈ bls ks, some i ≠ some g := fun i hi e2 => by
    injection e2 with e2
    subst e2
    exact hdis i (by rw [Option.mem_toList]; exact hgo) i (hbl.mem_iff.1 hi) rfl
  have hblp : (bls l').Perm (bls ks) := by
    have key : ∀ {a b : List Mt}, a.Perm b → (bls a).Perm (bls b) := by
      intro a b hab
      induction hab with
      | nil => exact List.Perm.refl _
      | cons x _ ih => simp only [bls]; exact List.Perm.append_left _ ih
      | swap x y l => simp only [bls]; rw [← List.append_assoc, ← List.append_assoc]; exact List.Perm.append_right _ List.perm_append_comm
      | trans _ _ i1 i2 => exact i1.trans i2
    exact key hp
  refine ⟨?_, rfl, ?_, Hold.mk_ (by rw [hs, ← hl, hp.length_eq]) ho (fun m hm => ?_), ?_⟩
  · rw [Mt.tr, Mt.tr, sortT, if_pos h7, sortTs_map, hby, htr]
  · rw [Mt.bl, Mt.bl]; exact List.Perm.append_left _ (hblp.trans hbl)
  · have hmk : m ∈ ks := hp.mem_iff.1 hm
    have hm2 := Holds_all.1 h.hold m hmk
    exact Hold.move m hm2 (fun k hk => hg.block k (Hold.lt m hm2 k hk).2.1 (hgb k (bls_mem hmk k hk)))
  · refine (hkp.mono (fun i _ hi => ?_)).trans (T := fun i => i = g) ⟨hg.os, hg.tape, hg.output, hg.size, fun i hi hn => hg.block i hi (fun e2 => hn (by injection e2))⟩ (fun i _ hi => ?_)
    · rw [Mt.bl]; exact List.mem_append.2 (.inr hi)
    · subst hi; rw [Mt.bl, hgo]; simp
end Go.Proofs.YtoefnmhmiphilaaGreatDoor.Tp
