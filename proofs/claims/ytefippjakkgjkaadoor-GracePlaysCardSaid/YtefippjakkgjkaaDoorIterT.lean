/- A range over an iterator that itself writes blocks of its own (S) between two rounds. -/
import Derived.Test.YtefippjakkgjkaaDoorIterG
namespace Go.Proofs.YtefippjakkgjkaaDoor
open Go.RowKit Go.Shelf

variable {P : Program}
/-- What such an iterator owes: whatever the caller keeps of the world that the iterator's own writes leave alone. -/
def SeqStopsT {α : Type} (T : Nat → Prop) (E : World → Prop) (P : Program) (g : Nat) (lb : Array Value) (encs : α → Array Value) (Kp : World → World → Prop) (xs : List α) (w : World) : Prop :=
  ∀ (l : Nat) (J Jx : List α → World → Prop) (W : World), Below w.heap.size w W → (∀ pre A B, J pre A → Chg T A B → J pre B) →
    (∀ pre x W1, J pre W1 → pre.length < xs.length → YieldAt Fence.wide 7 P l (encs x) W1 fun e W' =>
      (e = .returned (.bool true) ∧ J (pre ++ [x]) W' ∧ Kp W1 W') ∨ (e = .returned (.bool false) ∧ Jx (pre ++ [x]) W')) →
    J [] W →
    CallsIn Fence.wide 8 P g (#[.func (.yield l) #[] #[]] ++ lb) W fun e W' => (∃ v, e = .returned v) ∧ ((J xs W' ∧ E W') ∨ (∃ pre, pre <+: xs ∧ Jx pre W'))

theorem chg_heap {T : Nat → Prop} {A B : World} {n k : Nat} {o : Obj} (h : Chg T A B) (hT : ∀ k, T k → k < n) (hk : n ≤ k) (ho : A.heap[k]? = some o) : B.heap[k]? = some o :=
  (h.block k (Array.getElem?_eq_some_iff.1 ho).1 (fun hs => by have := hT k hs; omega)).trans ho
theorem iter_ruleT {α : Type} {g : Operand} {ps : Array Tmp} {assign body : Code} {Q : Exit → Act → World → Prop} {a : Act} {w : World}
    {gf : Nat} {lb : Array Value} (T : Nat → Prop) (hT : ∀ k, T k → k < w.heap.size) (Kp : World → World → Prop) {encs : α → Array Value} {xs : List α} {w0 : World}
    (hKt : ∀ {A B C : World}, Kp A B → Kp B C → Kp A C) (hKb : ∀ (W : World) (l : Nat) (o o' : Obj), w.heap.size ≤ l → W.heap[l]? = some o → o.isCells = false → Kp W (W.putObj l o'))
    (hg : a.eval g = .func (.func gf) #[] lb) (eg : ∀ args w, (callFunc gf args).run P w = .ok (.enter gf args) w)
    (E : World → Prop) (hE : Stays w.heap.size E) (hseq : SeqStopsT T E P gf lb encs Kp xs w0) (hb0 : Below w0.heap.size w0 w) (hps : ∀ x, (encs x).size = ps.size)
    (I : List α → World → Prop) (Ix : Code → List α → World → Prop) (hI : ∀ pre, Stays w.heap.size (I pre)) (hIT : ∀ pre A B, I pre A → Chg T A B → I pre B) (hIx : ∀ c pre, Stays w.heap.size (Ix c pre)) (h0 : I [] w)
    (Ax : α → Act → World → Prop) (hAx : ∀ x a', Stays w.heap.size (fun W => Ax x a' W))
    (hassign : ∀ (l : Nat) (pre : List α) (x : α) (W : World) (K : Act → World → Prop), I pre W → (∀ a' W', KeepsFrom w.heap.size W W' → Kp W W' → I pre W' → Ax x a' W' → K a' W') →
      assign.wpIn (Fence.wide.inRound l) 7 P (Exit.then K (fun _ _ _ => False)) { tmps := (ps.zip (encs x)).foldl (fun t (p, v) => t.setIfInBounds p v) a.tmps, defers := [] } W)
    (hbody : ∀ (l : Nat) (pre : List α) (x : α) (a' : Act) (W : World), pre.length < xs.length → I pre W → Ax x a' W → body.wpIn (Fence.wide.inRound l) 7 P (ownPostG w.heap.size Kp I Ix (pre ++ [x]) W) a' W)
    (hdone : ∀ (D : Nat) (W : World), w.heap.size ≤ D → I xs W → E W → W.heap[D]? = some (.deferred (some [])) → Q .normal { a with defers := { target := .collected D, args := #[] } :: a.defers } W)
    (hstop : ∀ (D : Nat) (c : Code) (pre : List α) (W : World), w.heap.size ≤ D → pre <+: xs → Ix c pre W → W.heap[D]? = some (.deferred (some [])) → c.wpIn Fence.wide 9 P Q { a with defers := { target := .collected D, args := #[] } :: a.defers } W) :
    (Code.rangeFunc g ps assign body).wpIn Fence.wide 9 P Q a w := by
  refine wpIn_rangeFunc ?_
  intro fn hfn
  rw [show Fence.wide.round = none from rfl]
  let rec' : LoopState → Option Code → Loop := fun st pe => { state := st, pending := pe, fn, tmps := a.tmps, params := ps, assign, body, defers := w.heap.size }
  obtain ⟨rec, hrec⟩ : ∃ rec : LoopState → Option Code → Loop, rec = rec' := ⟨_, rfl⟩
  obtain ⟨W1, hW1⟩ : ∃ W1, (w.alloc (.deferred (some []))).alloc (.loop (rec .ready none)) = W1 := ⟨_, rfl⟩
  have hL1 : W1.heap[w.heap.size + 1]? = some (.loop (rec .ready none)) := by
    rw [← hW1]; have := World.alloc_heap_new (w.alloc (.deferred (some []))) (.loop (rec .ready none)); rwa [World.size_alloc] at this
  have hK1 : W1.heap[w.heap.size]? = some (.deferred (some [])) := by
    rw [← hW1]; exact (Below.heap_alloc _ _ _ (by simp)).trans (World.alloc_heap_new w _)
  have hKeep : Keeps w W1 := by rw [← hW1]; exact Keeps.trans (Keeps.alloc _ _) (Keeps.alloc _ _)
  have hI1 : I [] W1 := hI [] w W1 none h0 (keeps_grown hKeep) (fun r e => by cases e)
  have hb1 : Below w0.heap.size w0 W1 := hb0.trans (Below.mono hKeep hb0.size)
  refine ⟨w.heap.size + 1, [{ target := .collected w.heap.size, args := #[] }], W1, { target := .fn (.func gf) lb, args := #[.func (.yield (w.heap.size + 1)) #[] #[]] }, W1, gf,
    #[.func (.yield (w.heap.size + 1)) #[] #[]] ++ lb, W1, ?_, ?_, ?_, ?_, fun _ => (by omega), ?_⟩
  · rw [← hW1, hrec]; exact run_enterLoop_outer _ _ _ _ _
  · simp only [resolve, hg]
    simp [go_sem]
  · intro f' hf'; simp [Target.leads] at hf'; subst hf'; trivial
  · simp [invoke, go_sem, eg]
  · refine (hseq (w.heap.size + 1)
      (fun pre W => I pre W ∧ W.heap[w.heap.size + 1]? = some (.loop (rec .ready none)) ∧ W.heap[w.heap.size]? = some (.deferred (some [])))
      (fun pre W => ∃ c, Ix c pre W ∧ W.heap[w.heap.size + 1]? = some (.loop (rec .done (some c))) ∧ W.heap[w.heap.size]? = some (.deferred (some [])))
      W1 hb1 (fun pre A B hs hc => ⟨hIT pre A B hs.1 hc, chg_heap hc hT (by omega) hs.2.1, chg_heap hc hT (Nat.le_refl _) hs.2.2⟩) ?_ ⟨hI1, hL1, hK1⟩).mono ?_
    · rintro pre x W ⟨hi, hl, hk⟩ hlen
      have hy := run_yield (P := P) (args := encs x) hl (by rw [hrec]; exact hps x)
      rw [hrec] at hy
      refine ⟨fn, _, assign, body, hy, roundIn_of_wpIn hfn (hassign _ pre x W _ hi ?_)⟩
      clear hy
      intro a' Wa hkf hkp hia hax
      have hla := hkf.same _ _ (by omega) hl rfl
      have hka := hkf.same _ _ (Nat.le_refl _) hk rfl
      have hlt : w.heap.size + 1 < Wa.heap.size := (Array.getElem?_eq_some_iff.1 hla).1
      refine ⟨_, run_beginRound hla (by rw [hrec]), ?_⟩
      have hl2 : (Wa.putObj (w.heap.size + 1) (.loop { rec .ready none with state := .busy })).heap[w.heap.size + 1]? = some (.loop { rec .ready none with state := .busy }) := World.putObj_heap_same hlt
      have hk2 : (Wa.putObj (w.heap.size + 1) (.loop { rec .ready none with state := .busy })).heap[w.heap.size]? = some (.deferred (some [])) := (World.putObj_heap_other (by omega)).trans hka
      have hw2 : Kp W (Wa.putObj (w.heap.size + 1) (.loop { rec .ready none with state := .busy })) := hKt hkp (hKb _ _ _ _ (by omega) hla rfl)
      refine wpIn_mono (hbody _ pre x a' _ hlen ((hI pre).putObj _ hia (by omega) hla rfl) ((hAx x a').putObj _ hax (by omega) hla rfl)) ?_
      have fin : ∀ (jump : Option Code) (W3 : World), KeepsFrom w.heap.size (Wa.putObj (w.heap.size + 1) (.loop { rec .ready none with state := .busy })) W3 →
          (Instr.endRound (w.heap.size + 1) jump).run P W3 = .ok (.bool jump.isNone) (W3.putObj (w.heap.size + 1) (.loop (rec (if jump.isNone then .ready else .done) jump))) ∧
          W3.heap[w.heap.size + 1]? = some (.loop { rec .ready none with state := .busy }) ∧
          (W3.putObj (w.heap.size + 1) (.loop (rec (if jump.isNone then .ready else .done) jump))).heap[w.heap.size + 1]? = some (.loop (rec (if jump.isNone then .ready else .done) jump)) ∧
          (W3.putObj (w.heap.size + 1) (.loop (rec (if jump.isNone then .ready else .done) jump))).heap[w.heap.size]? = some (.deferred (some [])) := fun jump W3 hk3 => by
        have hl3 := hk3.same _ _ (by omega) hl2 rfl
        have := run_endRound (P := P) jump hl3
        rw [hrec] at this ⊢
        exact ⟨this, by rw [hrec] at hl3; exact hl3, World.putObj_heap_same (Array.getElem?_eq_some_iff.1 hl3).1, (World.putObj_heap_other (by omega)).trans (hk3.same _ _ (Nat.le_refl _) hk2 rfl)⟩
      rintro e a3 W3 hp
      cases e with
      | normal =>
        obtain ⟨hk3, hkp3, hi3⟩ := hp
        obtain ⟨hr, hl3, hl4, hk4⟩ := fin none W3 hk3
        exact ⟨_, _, hr, .inl ⟨rfl, ⟨(hI _).putObj _ hi3 (by omega) hl3 rfl, hl4, hk4⟩, hKt (hKt hw2 hkp3) (hKb _ _ _ _ (by omega) hl3 rfl)⟩⟩
      | ret =>
        obtain ⟨hk3, hi3⟩ := hp
        obtain ⟨hr, hl3, hl4, hk4⟩ := fin (some .ret) W3 hk3
        exact ⟨_, _, hr, .inr ⟨rfl, .ret, (hIx _ _).putObj _ hi3 (by omega) hl3 rfl, hl4, hk4⟩⟩
      | exit id =>
        obtain ⟨hk3, hi3⟩ := hp
        obtain ⟨hr, hl3, hl4, hk4⟩ := fin (some (.exit id)) W3 hk3
        exact ⟨_, _, hr, .inr ⟨rfl, .exit id, (hIx _ _).putObj _ hi3 (by omega) hl3 rfl, hl4, hk4⟩⟩
      | goto t =>
        obtain ⟨hk3, hi3⟩ := hp
        obtain ⟨hr, hl3, hl4, hk4⟩ := fin (some (.goto t)) W3 hk3
        exact ⟨_, _, hr, .inr ⟨rfl, .goto t, (hIx _ _).putObj _ hi3 (by omega) hl3 rfl, hl4, hk4⟩⟩
      | panic ch => exact hp.elim
      | outgrown => exact hp.elim
    · rintro e W2 ⟨⟨v, rfl⟩, (⟨⟨hi, hl, hk⟩, he⟩ | ⟨pre, hSp, c, hi, hl, hk⟩)⟩
      · exact ⟨none, _, by have := run_endLoop (P := P) hl (by rw [hrec]; simp [rec']); rw [hrec] at this; exact this, hdone _ _ (Nat.le_refl _) ((hI _).putObj _ hi (by omega) hl rfl) (hE.putObj _ he (by omega) hl rfl) ((World.putObj_heap_other (by omega)).trans hk)⟩
      · exact ⟨some c, _, by have := run_endLoop (P := P) hl (by rw [hrec]; simp [rec']); rw [hrec] at this; exact this, hstop _ c pre _ (Nat.le_refl _) hSp ((hIx c _).putObj _ hi (by omega) hl rfl) ((World.putObj_heap_other (by omega)).trans hk)⟩
/-- What a round keeps for such an iterator: the blocks of S'. -/
structure KeepK (S' : Nat → Prop) (W W' : World) : Prop where
  size : W.heap.size ≤ W'.heap.size
  cells : ∀ k o, S' k → W.heap[k]? = some o → o.isCells = true → W'.heap[k]? = some o
theorem KeepK.trans {S' : Nat → Prop} {x y z : World} (h : KeepK S' x y) (k : KeepK S' y z) : KeepK S' x z := ⟨Nat.le_trans h.size k.size, fun i o hi hx hc => k.cells i o hi (h.cells i o hi hx hc) hc⟩
theorem KeepK.of_chg {S S' : Nat → Prop} {W W' : World} (h : Chg S W W') (hS : ∀ k, S' k → ¬ S k) : KeepK S' W W' := ⟨h.size, fun k _ hk hx _ => (h.block k (Array.getElem?_eq_some_iff.1 hx).1 (hS k hk)).trans hx⟩
theorem KeepK.of_keeps {S' : Nat → Prop} {W W' : World} (h : Keeps W W') : KeepK S' W W' := ⟨h.size, fun k _ _ hx _ => (h.block k (Array.getElem?_eq_some_iff.1 hx).1).trans hx⟩
theorem KeepK.putObj {S' : Nat → Prop} {W : World} {l : Nat} {o : Obj} (o' : Obj) (hl : W.heap[l]? = some o) (hc : o.isCells = false) : KeepK S' W (W.putObj l o') := by
  have hg := grownBy_putObj' W l o'
  refine ⟨hg.size, fun k o2 _ hx hcc => (hg.block k (Array.getElem?_eq_some_iff.1 hx).1 (fun h => ?_)).trans hx⟩
  cases h; rw [hl] at hx; cases hx; rw [hc] at hcc; cases hcc
theorem KeepK.blk {S' : Nat → Prop} {W W' : World} (h : KeepK S' W W') {b : Nat} {t : TypeId} {cs : List Value} (hb : Blk W b t cs) (hS : S' b) : Blk W' b t cs := h.cells b _ hS hb rfl
theorem KeepK.boxed {S' : Nat → Prop} {W W' : World} (h : KeepK S' W W') {b : Nat} {t : TypeId} {v : Value} (hb : Boxed W b t v) (hS : S' b) : Boxed W' b t v := h.cells b _ hS hb rfl
theorem boxed_chg {S : Nat → Prop} {W W' : World} {b : Nat} {t : TypeId} {v : Value} (hb : Boxed W b t v) (h : Chg S W W') (hn : ¬ S b) : Boxed W' b t v := Blk.chg (cs := [v]) hb h hn
end Go.Proofs.YtefippjakkgjkaaDoor
