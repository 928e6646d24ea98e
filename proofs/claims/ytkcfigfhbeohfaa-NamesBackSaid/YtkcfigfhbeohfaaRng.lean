/- A range over a function whose iterator keeps state in cells of its own: the iterator's contract and the caller's law, over any program. -/
import Derived.RangeFuncNested
import Derived.RangeFuncBox
import Derived.RangeFuncBound
import Derived.RangeFuncCalls
import Derived.RangeFuncLeaves
import Derived.Deep.Draws
import Derived.Maps.AppendAt
import Derived.WalkKit
namespace Go.Proofs.Ytkcfigfhbeohfaa.Rng
open Go Go.RowKit

/-- An invariant that abides new blocks, the turn of a block of the iterator's own (`Bs`), and the turn of a block from `B` on that is no cells. -/
def OwnC {β : Type} (B : Nat) (Bs : Nat → Prop) (I : β → World → Prop) : Prop :=
  ∀ s W W' row, I s W → W.grownBy W' row → (∀ r, row = some r → Bs r ∨ (B ≤ r ∧ ∃ o : Obj, W.heap[r]? = some o ∧ o.isCells = false)) → I s W'

/-- What the iterator promises the round: new blocks, and turns of its own blocks or of a walk's object that it has laid. -/
def AbidesC {β : Type} (B : Nat) (Bs : Nat → Prop) (J : β → World → Prop) : Prop :=
  ∀ s W W' row, J s W → W.grownBy W' row → (∀ r, row = some r → Bs r ∨ (B ≤ r ∧ ∃ o : Obj, W.heap[r]? = some o ∧ o.isWalk = true)) → J s W'

theorem grown_drewN (w : World) (n : Nat) (row : Option Nat) : w.grownBy (w.drewN n) row := ⟨rfl, rfl, rfl, Nat.le_refl _, fun _ _ _ => rfl⟩
theorem AbidesC.drew {β : Type} {B : Nat} {Bs : Nat → Prop} {J : β → World → Prop} (h : AbidesC B Bs J) {s : β} {W : World} (k : Nat) (hs : J s W) : J s (W.drewN k) :=
  h s W _ none hs (grown_drewN W k none) (fun r e => by cases e)
theorem AbidesC.alloc {β : Type} {B : Nat} {Bs : Nat → Prop} {J : β → World → Prop} (h : AbidesC B Bs J) {s : β} {W : World} (o : Obj) (hs : J s W) : J s (W.alloc o) :=
  h s W _ none hs (World.grownBy_alloc W o none) (fun r e => by cases e)
theorem AbidesC.setCell {β : Type} {B : Nat} {Bs : Nat → Prop} {J : β → World → Prop} (h : AbidesC B Bs J) {s : β} {W : World} {b : Nat} (hb : Bs b) (v : Value) (hs : J s W) : J s (W.setCell ⟨b, 0, none⟩ v) :=
  h s W _ (some b) hs (grownBy_setCell' W b v) (fun r e => by cases e; exact .inl hb)

/-- THE ITERATOR's CONTRACT: called in `W` it hands on the arrays of `xs`, one after the other, till a round has said 'no more'. -/
def IterC (P : Program) (g : Nat) (lb : Array Value) (Bs : Nat → Prop) (Kp : World → World → Prop) (xs : List (Array Value)) (W : World) : Prop :=
  ∀ (n l : Nat) (J : Nat → World → Prop) (Jx : Unit → World → Prop), AbidesC W.heap.size Bs J → AbidesC W.heap.size Bs Jx →
    (∀ i x W1, J i W1 → xs[i]? = some x → YieldAt Fence.wide (n - 1) P l x W1 fun e W' =>
      (e = .returned (.bool true) ∧ J (i + 1) W' ∧ Kp W1 W') ∨ (e = .returned (.bool false) ∧ Jx () W')) →
    J 0 W →
    CallsIn Fence.wide n P g (#[.func (.yield l) #[] #[]] ++ lb) W fun e W' => (∃ v, e = .returned v) ∧ (J xs.length W' ∨ Jx () W')

/-- How a round's body may be left. -/
def bodyC (B : Nat) (Kp : World → World → Prop) (I : Nat → World → Prop) (Ix : Code → World → Prop) (i : Nat) (W : World) : Exit → Act → World → Prop
  | .normal, _, W' => KeepsFrom B W W' ∧ Kp W W' ∧ I i W'
  | .ret, _, W' => KeepsFrom B W W' ∧ Ix .ret W'
  | .exit id, _, W' => KeepsFrom B W W' ∧ Ix (.exit id) W'
  | .goto t, _, W' => KeepsFrom B W W' ∧ Ix (.goto t) W'
  | .panic _, _, _ => False
  | .outgrown, _, _ => False

variable {n : Nat} {P : Program}

/-- A block that is no cells and that the iterator has no leave to turn lies as it lay. -/
theorem kept_by {A B : World} {row : Option Nat} {B0 k : Nat} {Bs : Nat → Prop} {o : Obj} (hg : A.grownBy B row)
    (hr : ∀ r, row = some r → Bs r ∨ (B0 ≤ r ∧ ∃ o : Obj, A.heap[r]? = some o ∧ o.isWalk = true)) (hk : A.heap[k]? = some o) (hw : o.isWalk = false) (hB : ¬ Bs k) : B.heap[k]? = some o := by
  refine (hg.block k (Array.getElem?_eq_some_iff.1 hk).1 fun e => ?_).trans hk
  rcases hr k e.symm with h | ⟨_, o', h', hw'⟩
  · exact hB h
  · rw [hk] at h'; cases h'; rw [hw] at hw'; cases hw'

/-- THE LAW of `for .. := range g { .. }` over such an iterator, outside of every round. -/
theorem wpIn_iter {g : Operand} {ps : Array Tmp} {assign body : Code} {Q : Exit → Act → World → Prop} {a : Act} {w : World}
    {gf : Nat} {lb : Array Value} (hg : a.eval g = .func (.func gf) #[] lb) (eg : ∀ args w, (callFunc gf args).run P w = .ok (.enter gf args) w)
    {Bs : Nat → Prop} {Kp : World → World → Prop} {xs : List (Array Value)}
    (hseq : ∀ W, Below w.heap.size w W → IterC P gf lb Bs Kp xs W) (hBs : ∀ r, Bs r → r < w.heap.size)
    (hKt : ∀ {A B C : World}, Kp A B → Kp B C → Kp A C) (hKb : ∀ (W : World) (l : Nat) (o o' : Obj), w.heap.size ≤ l → W.heap[l]? = some o → o.isCells = false → Kp W (W.putObj l o'))
    (hps : ∀ x ∈ xs, x.size = ps.size)
    (I : Nat → World → Prop) (Ix : Code → World → Prop) (hI : OwnC w.heap.size Bs I) (hIx : ∀ c, OwnC w.heap.size Bs (fun (_ : Unit) => Ix c)) (h0 : I 0 w)
    (Ax : Nat → Act → World → Prop) (hAx : ∀ i a', OwnFrom w.heap.size (fun (_ : Unit) W => Ax i a' W))
    (hassign : ∀ (l i : Nat) (x : Array Value) (W : World) (K : Act → World → Prop), xs[i]? = some x → I i W → (∀ a' W', KeepsFrom w.heap.size W W' → Kp W W' → I i W' → Ax i a' W' → K a' W') →
      assign.wpIn (Fence.wide.inRound l) (n - 1 - 1) P (Exit.then K (fun _ _ _ => False)) { tmps := (ps.zip x).foldl (fun t (p, v) => t.setIfInBounds p v) a.tmps, defers := [] } W)
    (hbody : ∀ (l i : Nat) (x : Array Value) (a' : Act) (W : World), w.heap.size ≤ l → (∃ r, W.heap[l]? = some (.loop r)) → xs[i]? = some x → I i W → Ax i a' W →
      body.wpIn (Fence.wide.inRound l) (n - 1 - 1) P (bodyC w.heap.size Kp I Ix (i + 1) W) a' W)
    (hdone : ∀ (D : Nat) (W : World), w.heap.size ≤ D → I xs.length W → W.heap[D]? = some (.deferred (some [])) → Q .normal { a with defers := { target := .collected D, args := #[] } :: a.defers } W)
    (hstop : ∀ (D : Nat) (c : Code) (W : World), w.heap.size ≤ D → Ix c W → W.heap[D]? = some (.deferred (some [])) → c.wpIn Fence.wide n P Q { a with defers := { target := .collected D, args := #[] } :: a.defers } W) :
    (Code.rangeFunc g ps assign body).wpIn Fence.wide n P Q a w := by
  refine wpIn_rangeFunc fun fn hfn => ?_
  have hro : Fence.wide.round = none := rfl
  rw [hro]
  obtain ⟨rec, hrec⟩ : ∃ rec : LoopState → Option Code → Loop, rec = fun st pe => { state := st, pending := pe, fn, tmps := a.tmps, params := ps, assign, body, defers := w.heap.size } := ⟨_, rfl⟩
  obtain ⟨V, hV⟩ : ∃ V, (w.alloc (.deferred (some []))).alloc (.loop (rec .ready none)) = V := ⟨_, rfl⟩
  have hVs : V.heap.size = w.heap.size + 1 + 1 := by rw [← hV]; simp
  have hVl : V.heap[w.heap.size + 1]? = some (.loop (rec .ready none)) := by
    have := World.alloc_heap_new (w.alloc (.deferred (some []))) (.loop (rec .ready none))
    rw [World.size_alloc, hV] at this; exact this
  have hVd : V.heap[w.heap.size]? = some (.deferred (some [])) := by
    rw [← hV]; exact (Below.heap_alloc _ _ _ (by simp)).trans (World.alloc_heap_new w _)
  have hgr : ∀ (o : Obj) {s : Nat} {W : World}, I s W → I s (W.alloc o) := fun o s W h => hI s W _ none h (World.grownBy_alloc W o none) (fun r e => by cases e)
  have hVI : I 0 V := by rw [← hV]; exact hgr _ (hgr _ h0)
  have hVb : Below w.heap.size w V := by rw [← hV]; exact ((Below.refl _ w).alloc (Nat.le_refl _) _).alloc (by simp) _
  -- a turn of one of the law's two blocks
  have hIp : ∀ {s : Nat} {W : World} {l : Nat} {o : Obj} (o' : Obj), I s W → w.heap.size ≤ l → W.heap[l]? = some o → o.isCells = false → I s (W.putObj l o') := fun o' h hl ho hc =>
    hI _ _ _ (some _) h (grownBy_putObj' _ _ o') (fun r e => by cases e; exact .inr ⟨hl, _, ho, hc⟩)
  have hIxp : ∀ {c : Code} {W : World} {l : Nat} {o : Obj} (o' : Obj), Ix c W → w.heap.size ≤ l → W.heap[l]? = some o → o.isCells = false → Ix c (W.putObj l o') := fun o' h hl ho hc =>
    hIx _ () _ _ (some _) h (grownBy_putObj' _ _ o') (fun r e => by cases e; exact .inr ⟨hl, _, ho, hc⟩)
  have hup : ∀ {A : World} {row : Option Nat}, (∀ r, row = some r → Bs r ∨ (V.heap.size ≤ r ∧ ∃ o : Obj, A.heap[r]? = some o ∧ o.isWalk = true)) →
      (∀ r, row = some r → Bs r ∨ (w.heap.size ≤ r ∧ ∃ o : Obj, A.heap[r]? = some o ∧ o.isCells = false)) := fun hr r e => by
    rcases hr r e with h | ⟨h, o, ho, hw⟩
    · exact .inl h
    · exact .inr ⟨by omega, o, ho, Obj.not_cells_of_walk hw⟩
  refine ⟨w.heap.size + 1, [{ target := .collected w.heap.size, args := #[] }], V, { target := .fn (.func gf) lb, args := #[.func (.yield (w.heap.size + 1)) #[] #[]] }, V, gf,
    #[.func (.yield (w.heap.size + 1)) #[] #[]] ++ lb, V, ?_, ?_, (fun _ _ => trivial), ?_, (fun h => by cases h), ?_⟩
  · rw [← hV, hrec]; exact run_enterLoop_outer _ _ _ _ _
  · simp only [resolve, hg]; simp [go_sem]
  · simp [invoke, go_sem, eg]
  refine (hseq V hVb (n - 1) (w.heap.size + 1)
    (fun i W => I i W ∧ W.heap[w.heap.size + 1]? = some (.loop (rec .ready none)) ∧ W.heap[w.heap.size]? = some (.deferred (some [])))
    (fun _ W => ∃ c, Ix c W ∧ W.heap[w.heap.size + 1]? = some (.loop (rec .done (some c))) ∧ W.heap[w.heap.size]? = some (.deferred (some [])))
    ?_ ?_ ?_ ⟨hVI, hVl, hVd⟩).mono ?_
  · rintro s A B row ⟨hi, hl, hd⟩ hg' hr
    exact ⟨hI s A B row hi hg' (hup hr), kept_by hg' hr hl rfl (fun h => by have := hBs _ h; omega), kept_by hg' hr hd rfl (fun h => by have := hBs _ h; omega)⟩
  · rintro s A B row ⟨c, hi, hl, hd⟩ hg' hr
    exact ⟨c, hIx c () A B row hi hg' (hup hr), kept_by hg' hr hl rfl (fun h => by have := hBs _ h; omega), kept_by hg' hr hd rfl (fun h => by have := hBs _ h; omega)⟩
  · -- one round
    rintro i x W ⟨hi, hl, hd⟩ hx
    have hy := run_yield (P := P) (args := x) hl (by rw [hrec]; exact hps x (List.mem_of_getElem? hx))
    rw [hrec] at hy
    refine ⟨fn, _, assign, body, hy, roundIn_of_wpIn hfn (hassign _ i x W _ hx hi fun a' U hkU hpU hiU hax => ?_)⟩
    have hlU := hkU.same _ _ (by omega) hl rfl
    have hdU := hkU.same _ _ (Nat.le_refl _) hd rfl
    refine ⟨_, run_beginRound hlU (by rw [hrec]), ?_⟩
    obtain ⟨X, hX⟩ : ∃ X, U.putObj (w.heap.size + 1) (.loop { rec .ready none with state := .busy }) = X := ⟨_, rfl⟩
    have hlX : X.heap[w.heap.size + 1]? = some (.loop { rec .ready none with state := .busy }) := by rw [← hX]; exact World.putObj_heap_same (Array.getElem?_eq_some_iff.1 hlU).1
    have hdX : X.heap[w.heap.size]? = some (.deferred (some [])) := by rw [← hX]; exact (World.putObj_heap_other (by omega)).trans hdU
    have hiX : I i X := by rw [← hX]; exact hIp _ hiU (by omega) hlU rfl
    have haX : Ax i a' X := by rw [← hX]; exact (hAx i a').putObj (s := ()) _ hax (by omega) hlU rfl
    have hpX : Kp U X := by rw [← hX]; exact hKb _ _ _ _ (by omega) hlU rfl
    have hb := hbody (w.heap.size + 1) i x a' X (by omega) ⟨_, hlX⟩ hx hiX haX
    rw [hX]
    refine wpIn_mono hb ?_
    -- the round's end
    have fin : ∀ (jump : Option Code) (Z : World), KeepsFrom w.heap.size X Z →
        ∃ Y, (Instr.endRound (w.heap.size + 1) jump).run P Z = .ok (.bool jump.isNone) Y ∧ Y = Z.putObj (w.heap.size + 1) (.loop (rec (if jump.isNone then .ready else .done) jump)) ∧
          Z.heap[w.heap.size + 1]? = some (.loop { rec .ready none with state := .busy }) ∧
          Y.heap[w.heap.size + 1]? = some (.loop (rec (if jump.isNone then .ready else .done) jump)) ∧ Y.heap[w.heap.size]? = some (.deferred (some [])) := fun jump Z hk => by
      have hlZ := hk.same _ _ (by omega) hlX rfl
      have hdZ := hk.same _ _ (Nat.le_refl _) hdX rfl
      have hr := run_endRound (P := P) jump hlZ
      refine ⟨_, hr, by rw [hrec], hlZ, ?_, (World.putObj_heap_other (by omega)).trans hdZ⟩
      rw [hrec]; exact World.putObj_heap_same (Array.getElem?_eq_some_iff.1 hlZ).1
    have leave : ∀ (c : Code) (Z : World), KeepsFrom w.heap.size X Z → Ix c Z → ∃ v Y, (Instr.endRound (w.heap.size + 1) (some c)).run P Z = .ok v Y ∧
        ((Ending.returned v = .returned (.bool true) ∧ (I (i + 1) Y ∧ Y.heap[w.heap.size + 1]? = some (.loop (rec .ready none)) ∧ Y.heap[w.heap.size]? = some (.deferred (some []))) ∧ Kp W Y) ∨
          (Ending.returned v = .returned (.bool false) ∧ ∃ c, Ix c Y ∧ Y.heap[w.heap.size + 1]? = some (.loop (rec .done (some c))) ∧ Y.heap[w.heap.size]? = some (.deferred (some [])))) := fun c Z hk hz => by
      obtain ⟨Y, hr, hY, hlZ, h1, h2⟩ := fin (some c) Z hk
      exact ⟨_, Y, hr, .inr ⟨rfl, c, by rw [hY]; exact hIxp _ hz (by omega) hlZ rfl, h1, h2⟩⟩
    rintro e a3 Z hp
    cases e with
    | normal =>
      obtain ⟨hk, hkp, hz⟩ := hp
      obtain ⟨Y, hr, hY, hlZ, h1, h2⟩ := fin none Z hk
      refine ⟨_, Y, hr, .inl ⟨rfl, ⟨?_, h1, h2⟩, hKt hpU (hKt hpX (hKt hkp ?_))⟩⟩
      · rw [hY]; exact hIp _ hz (by omega) hlZ rfl
      · rw [hY]; exact hKb _ _ _ _ (by omega) hlZ rfl
    | ret => exact leave .ret Z hp.1 hp.2
    | exit id => exact leave (.exit id) Z hp.1 hp.2
    | goto t => exact leave (.goto t) Z hp.1 hp.2
    | panic ch => exact hp.elim
    | outgrown => exact hp.elim
  · -- behind the iterator
    rintro e W ⟨⟨v, rfl⟩, (⟨hi, hl, hd⟩ | ⟨c, hi, hl, hd⟩)⟩
    · refine ⟨none, _, by have := run_endLoop (P := P) hl (by rw [hrec]; simp); rw [hrec] at this; exact this, ?_⟩
      exact hdone _ _ (Nat.le_refl _) (hIp _ hi (by omega) hl rfl) ((World.putObj_heap_other (by omega)).trans hd)
    · refine ⟨some c, _, by have := run_endLoop (P := P) hl (by rw [hrec]; simp); rw [hrec] at this; exact this, ?_⟩
      exact hstop _ c _ (Nat.le_refl _) (hIxp _ hi (by omega) hl rfl) ((World.putObj_heap_other (by omega)).trans hd)

/-! What a caller's invariant is made of. -/
section
variable {β : Type} {B : Nat} {Bs : Nat → Prop}
theorem OwnC.and {I I' : β → World → Prop} (h : OwnC B Bs I) (h' : OwnC B Bs I') : OwnC B Bs (fun s W => I s W ∧ I' s W) := fun s W W' row hs hg hr => ⟨h s W W' row hs.1 hg hr, h' s W W' row hs.2 hg hr⟩
theorem OwnC.ex {γ : Type} {I : γ → β → World → Prop} (h : ∀ c, OwnC B Bs (I c)) : OwnC B Bs (fun s W => ∃ c, I c s W) := fun s W W' row hs hg hr => let ⟨c, hc⟩ := hs; ⟨c, h c s W W' row hc hg hr⟩
theorem ownC_pure (p : β → Prop) : OwnC B Bs (fun s (_ : World) => p s) := fun _ _ _ _ hs _ _ => hs
theorem ownC_boxed {b t : Nat} {v : β → Value} (hb : ¬ Bs b) : OwnC B Bs (fun s W => Boxed W b t (v s)) := fun s W W' row hs hg hr => hs.kept hg fun e => by
  rcases hr b e.symm with h | ⟨_, o, ho, hc⟩
  · exact hb h
  · rw [show W.heap[b]? = _ from hs] at ho; cases ho; cases hc
theorem ownC_row {base e size : Nat} {v : β → Value} {n : β → Nat} {xs : β → List Value} (hb : ∀ r, Bs r → r < base) : OwnC B Bs (fun s W => W.ownsRow base e size (v s) (n s) (xs s)) := fun s W W' row hs hg hr => by
  refine hs.kept hg ?_
  rcases hs.2 with ⟨h, _⟩ | ⟨g, cap, cur, h, hbg, hgb, _⟩
  · exact .inl (by rw [h]; rfl)
  · refine .inr fun e' => ?_
    rw [h] at e'
    rcases hr g e'.symm with h' | ⟨_, o, ho, hc⟩
    · have := hb g h'; omega
    · rw [hgb] at ho; cases ho; cases hc
theorem ownC_below {n₀ : Nat} {w₀ : World} (hn : n₀ ≤ w₀.heap.size) (hB : n₀ ≤ B) (hBs : ∀ r, Bs r → n₀ ≤ r) : OwnC B Bs (fun (_ : β) W => Below n₀ w₀ W) :=
  fun _ _ _ _ hs hg hr => hs.grown hg (Nat.le_trans hn hs.size) (fun k e => (hr k e).elim (hBs k) (fun h => Nat.le_trans hB h.1))
end

/-- `out = append(out, ..)` of a boxed row, behind the append law's two words. -/
theorem boxed_append {W w1 : World} {base B : Nat} {t e : TypeId} {size : Nat} {v v' : Value} {k m : Nat} {xs ys : List Value} {tmp : Obj}
    (hv : Boxed W B t v) (hte : t ≠ e) (hrow : W.ownsRow base e size v k xs) (hbase : base ≤ W.heap.size)
    (hown' : w1.ownsRow base e size v' m ys) (hgrow : (W.alloc tmp).grownBy w1 v.ownBlock) :
    Boxed w1 B t v ∧ Boxed (w1.setCell ⟨B, 0, none⟩ v') B t v' ∧ (w1.setCell ⟨B, 0, none⟩ v').ownsRow base e size v' m ys ∧ KeepsOthers W (w1.setCell ⟨B, 0, none⟩ v') ∧
      (∀ n, n ≤ base → n ≤ B → n ≤ W.heap.size → Below n W (w1.setCell ⟨B, 0, none⟩ v')) ∧ (∀ b, b < base → b ≠ B → (w1.setCell ⟨B, 0, none⟩ v').heap[b]? = W.heap[b]?) ∧ (∀ b, b < base → b < W.heap.size → w1.heap[b]? = W.heap[b]?) := by
  have hv1 : Boxed w1 B t v := (hv.alloc tmp).kept hgrow (hv.not_row hte hrow)
  have hrg : ∀ j, v.ownBlock = some j → base ≤ j ∧ ∃ cur, W.heap[j]? = some (.cells cur e (0, 0)) := fun j ej => by
    rcases hrow.2 with ⟨rfl, _⟩ | ⟨g, cap, cur, rfl, hb, hgb, _⟩
    · simp [Value.ownBlock] at ej
    · obtain rfl : g = j := by simpa [Value.ownBlock] using ej
      exact ⟨hb, _, hgb⟩
  refine ⟨hv1, hv1.set v', hown'.kept (grownBy_setCell' w1 B v') (.inr (hv1.not_row hte hown').symm), ?_, fun n h1 h2 h3 => ?_, fun b h1 h2 => ?_, fun b h1 _ => ?_⟩
  · refine ((KeepsOthers.alloc W tmp).trans (KeepsOthers.of_grownBy hgrow fun j o ej hj => ?_)).trans (KeepsOthers.setCell _ _ _)
    obtain ⟨_, cur, hc⟩ := hrg j ej
    have hl := (Array.getElem?_eq_some_iff.1 hc).1
    rw [(Below.heap_alloc W tmp j hl).trans hc] at hj
    cases hj; rfl
  · refine (((Below.refl n W).alloc h3 tmp).grown hgrow (by simp; omega) fun j ej => ?_).setCell (p := ⟨B, 0, none⟩) h2 v'
    exact Nat.le_trans h1 (hrg j ej).1
  · have h4 : (w1.setCell ⟨B, 0, none⟩ v').heap[b]? = w1.heap[b]? := Below.heap_setCell w1 ⟨B, 0, none⟩ v' b h2
    rw [h4, hgrow.block b (by simp; omega) (fun e' => by have := (hrg b e'.symm).1; omega)]
    exact Below.heap_alloc W tmp b (by omega)
  · rw [hgrow.block b (by simp; omega) (fun e' => by have := (hrg b e'.symm).1; omega)]
    exact Below.heap_alloc W tmp b (by omega)

theorem boxed_drewN {W : World} {B t n : Nat} {v : Value} (h : Boxed W B t v) : Boxed (W.drewN n) B t v := h
theorem boxed_same {W W' : World} {B t : Nat} {v : Value} (h : W'.heap[B]? = W.heap[B]?) (hb : Boxed W B t v) : Boxed W' B t v := h.trans hb
theorem kf_set {B : Nat} {W X : World} (h : KeepsFrom B W X) (a : Addr) (v : Value) : KeepsFrom B W (X.setCell a v) := h.trans ((KeepsOthers.setCell _ _ _).from _)
theorem kf_alloc {B : Nat} {W X : World} (h : KeepsFrom B W X) (o : Obj) : KeepsFrom B W (X.alloc o) := h.trans ((KeepsOthers.alloc _ _).from _)
theorem kf_drewN {B : Nat} {W X : World} (h : KeepsFrom B W X) (n : Nat) : KeepsFrom B W (X.drewN n) := ⟨h.size, h.same⟩
theorem bl_set {N : Nat} {W X : World} (h : Below N W X) (b o : Nat) (v : Value) (hb : N ≤ b) : Below N W (X.setCell ⟨b, o, none⟩ v) := h.setCell (p := ⟨b, o, none⟩) hb v
theorem bl_drewN {N : Nat} {W X : World} (h : Below N W X) (n : Nat) : Below N W (X.drewN n) := by
  induction n with
  | zero => exact h
  | succ n ih => rw [← World.drew_drewN]; exact ih.drew
theorem row_set {W : World} {base e size n C : Nat} {v : Value} {xs : List Value} (h : W.ownsRow base e size v n xs) (hc : C < base) (u : Value) : (W.setCell ⟨C, 0, none⟩ u).ownsRow base e size v n xs := by
  refine h.kept (grownBy_setCell' W C u) ?_
  rcases h.2 with ⟨h0, _⟩ | ⟨g, cap, cur, h0, hbg, _⟩
  · exact .inl (by rw [h0]; rfl)
  · refine .inr fun e' => ?_
    rw [h0] at e'
    have : g = C := by simpa [Value.ownBlock] using e'
    omega
theorem bl_putObj {N : Nat} {W X : World} (h : Below N W X) {D : Nat} {o : Obj} (o' : Obj) (hD : N ≤ D) (hN : N ≤ X.heap.size) (_ : X.heap[D]? = some o) : Below N W (X.putObj D o') :=
  h.grown (grownBy_putObj' X D o') hN (fun k e => by cases e; exact hD)
/-- A block that is some variable's box. -/
def HasB (W : World) (B t : Nat) : Prop := ∃ u, Boxed W B t u
theorem hb_of {W : World} {B t : Nat} {v : Value} (h : Boxed W B t v) : HasB W B t := ⟨v, h⟩
theorem hb_drewN {W : World} {B t : Nat} (h : HasB W B t) (n : Nat) : HasB (W.drewN n) B t := h
theorem hb_set {W : World} {B t C : Nat} (h : HasB W B t) (hc : B ≠ C) (u : Value) : HasB (W.setCell ⟨C, 0, none⟩ u) B t := h.elim fun _ h => ⟨_, h.other hc u⟩
theorem bx_set {W : World} {B t : Nat} (h : HasB W B t) (v : Value) : Boxed (W.setCell ⟨B, 0, none⟩ v) B t v := h.elim fun _ h => h.set v
theorem same_set {X W : World} {b c o : Nat} {v : Value} (h : X.heap[b]? = W.heap[b]?) (hc : b ≠ c) : (X.setCell ⟨c, o, none⟩ v).heap[b]? = W.heap[b]? := (Below.heap_setCell X ⟨c, o, none⟩ v b hc).trans h
theorem keepsFrom_drewN (B : Nat) (W : World) (n : Nat) : KeepsFrom B W (W.drewN n) := ⟨Nat.le_refl _, fun _ _ _ h _ => h⟩

end Go.Proofs.Ytkcfigfhbeohfaa.Rng
