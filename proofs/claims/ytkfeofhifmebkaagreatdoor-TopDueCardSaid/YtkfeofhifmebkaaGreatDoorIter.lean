/- A range over a function, at the wide fence: one rule, with the world below n0 carried along. -/
import Derived.Test.YtkfeofhifmebkaaGreatDoorBase
import Derived.RangeFuncNested
import Derived.RangeFuncBound
import Derived.RangeFuncCalls
import Derived.RangeFuncLeaves
import Derived.RangeFuncBox
import Derived.Shelf.Abstract
import Derived.Shelf.RegionOpen
import Derived.OwnWalkIn
import Derived.TacticsInMore
import Derived.LoopNIn
import Derived.LoopIn
import Derived.Maps.AppendAt
namespace Go.Proofs.YtkfeofhifmebkaaGreatDoor
open Go.RowKit Go.Shelf

/-- p abides the turn of a block from B on that holds no cells, and new blocks. -/
def Stays (B : Nat) (p : World → Prop) : Prop :=
  ∀ W W' row, p W → W.grownBy W' row → (∀ r, row = some r → B ≤ r ∧ ∃ o : Obj, W.heap[r]? = some o ∧ o.isCells = false) → p W'
theorem Stays.and {B : Nat} {p q : World → Prop} (h : Stays B p) (k : Stays B q) : Stays B (fun W => p W ∧ q W) := fun W W' row hs hg hr => ⟨h W W' row hs.1 hg hr, k W W' row hs.2 hg hr⟩
theorem Stays.pure (B : Nat) (p : Prop) : Stays B (fun _ => p) := fun _ _ _ hs _ _ => hs
theorem Stays.ex {α : Sort _} {B : Nat} {p : α → World → Prop} (h : ∀ x, Stays B (p x)) : Stays B (fun W => ∃ x, p x W) := fun W W' row ⟨x, hs⟩ hg hr => ⟨x, h x W W' row hs hg hr⟩
theorem Stays.boxed (B b : Nat) (t : TypeId) (v : Value) : Stays B (fun W => Boxed W b t v) := fun W W' row hs hg hr => Own.from (boxed_own (β := Unit) b t (fun _ => v)) B () W W' row hs hg hr
theorem Stays.below {B n0 : Nat} {w0 : World} (hn : n0 ≤ w0.heap.size) (hB : n0 ≤ B) : Stays B (fun W => Below n0 w0 W) := fun W W' row hs hg hr => ownFrom_below (β := Unit) hn hB () W W' row hs hg hr
theorem Stays.row {B base : Nat} {e : TypeId} {size : Nat} {v : Value} {n : Nat} {xs : List Value} : Stays B (fun W => W.ownsRow base e size v n xs) := by
  rintro W W' row hs hg hr
  refine hs.kept hg ?_
  rcases hs.2 with ⟨rfl, _⟩ | ⟨g, cap, cur, rfl, _, hgb, _⟩
  · exact .inl rfl
  · refine .inr fun e' => ?_
    obtain ⟨_, o, ho, hc⟩ := hr _ e'.symm
    simp only [Value.ownBlock] at *
    rw [hgb] at ho; cases ho; cases hc
theorem Stays.putObj {B : Nat} {p : World → Prop} (h : Stays B p) {W : World} {l : Nat} {o : Obj} (o' : Obj) (hs : p W) (hB : B ≤ l) (hl : W.heap[l]? = some o) (ho : o.isCells = false) : p (W.putObj l o') :=
  h W _ (some l) hs (grownBy_putObj' W l o') (fun r e => by cases e; exact ⟨hB, o, hl, ho⟩)

/-- How a round is left. -/
def iterPost {α : Type} (B n0 : Nat) (I : List α → World → Prop) (Ix : Code → List α → World → Prop) (xs : List α) (W : World) : Exit → Act → World → Prop
  | .normal, _, W' => KeepsFrom B W W' ∧ Below n0 W W' ∧ I xs W'
  | .ret, _, W' => KeepsFrom B W W' ∧ Below n0 W W' ∧ Ix .ret xs W'
  | .exit id, _, W' => KeepsFrom B W W' ∧ Below n0 W W' ∧ Ix (.exit id) xs W'
  | .goto t, _, W' => KeepsFrom B W W' ∧ Below n0 W W' ∧ Ix (.goto t) xs W'
  | .panic _, _, _ => False
  | .outgrown, _, _ => False

variable {P : Program}

/-- What a round keeps for an iterator that reads its own box B again: old memory, and that box. -/
def KeepB (n B : Nat) (W W' : World) : Prop := Below n W W' ∧ ∀ t v, Boxed W B t v → Boxed W' B t v
theorem KeepB.refl (n B : Nat) (W : World) : KeepB n B W W := ⟨Below.refl _ _, fun _ _ h => h⟩
theorem KeepB.trans {n B : Nat} {x y z : World} (h : KeepB n B x y) (k : KeepB n B y z) : KeepB n B x z := ⟨h.1.trans k.1, fun t v hb => k.2 t v (h.2 t v hb)⟩
/-- What a round keeps for an iterator that made memory of its own: old memory, and every block of cells but O. -/
structure KeepC (n O : Nat) (W W' : World) : Prop where
  below : Below n W W'
  cells : ∀ k o, k ≠ O → W.heap[k]? = some o → o.isCells = true → W'.heap[k]? = some o
theorem KeepC.refl (n O : Nat) (W : World) : KeepC n O W W := ⟨Below.refl _ _, fun _ _ _ h _ => h⟩
theorem KeepC.trans {n O : Nat} {x y z : World} (h : KeepC n O x y) (k : KeepC n O y z) : KeepC n O x z := ⟨h.below.trans k.below, fun i o hi hx hc => k.cells i o hi (h.cells i o hi hx hc) hc⟩
theorem KeepC.of_keeps {n O : Nat} {W W' : World} (h : Keeps W W') (hn : n ≤ W.heap.size) : KeepC n O W W' := ⟨Below.mono h hn, fun k o _ hx _ => by rw [h.block k ((Array.getElem?_eq_some_iff.1 hx).1)]; exact hx⟩
theorem KeepC.blk {n O : Nat} {W W' : World} (h : KeepC n O W W') {b : Nat} {t : TypeId} {cs : List Value} (hb : Blk W b t cs) (hO : b ≠ O) : Blk W' b t cs := h.cells b _ hO hb rfl
theorem KeepC.boxed {n O : Nat} {W W' : World} (h : KeepC n O W W') {b : Nat} {t : TypeId} {v : Value} (hb : Boxed W b t v) (hO : b ≠ O) : Boxed W' b t v := h.cells b _ hO hb rfl
theorem KeepC.cell {n O : Nat} {W W' : World} (h : KeepC n O W W') {b k : Nat} {v : Value} (hc : W.cell? ⟨b, k, none⟩ = some v) (hO : b ≠ O) : W'.cell? ⟨b, k, none⟩ = some v := by
  unfold World.cell? at hc ⊢
  cases hb : W.heap[b]? with
  | none => simp [hb] at hc
  | some o =>
    cases o with
    | cells cs t fr => rw [h.cells b _ hO hb rfl]; rw [hb] at hc; exact hc
    | _ => simp [hb] at hc
/-- What a list of worlds' facts abides, where new memory is made. -/
theorem keeps_grown {W W' : World} (h : Keeps W W') : W.grownBy W' none := ⟨h.os, h.tape, h.output, h.size, fun k hk _ => h.block k hk⟩

/-- A function's return behind such a loop: the deferred calls' block is closed; the results are read there. -/
theorem ret_marks {fn : Func} {R : Ending → World → Prop} {a : Act} {W : World} {D : Nat} {v : Value} (hK : W.heap[D]? = some (.deferred (some [])))
    (hd : a.defers = [{ target := .collected D, args := #[] }]) (hr : (results fn a.tmps).run P (W.putObj D (.deferred none)) = .ok v (W.putObj D (.deferred none))) (hR : R (.returned v) (W.putObj D (.deferred none))) :
    bodyPostM Fence.wide 9 P fn R .ret a W := by
  show LeavesInM Fence.wide 9 P fn a.tmps R a.defers .returning W
  rw [hd]
  exact ⟨by simp, .inl ⟨_, _, rfl, run_takeDeferred hK, v, hr, hR⟩⟩
theorem _root_.Go.RowKit.Below.putObj {n0 : Nat} {wb W : World} {D : Nat} {o : Obj} (h : Below n0 wb W) (o' : Obj) (hD : n0 ≤ D) (hK : W.heap[D]? = some o) : Below n0 wb (W.putObj D o') :=
  h.grown (grownBy_putObj' W D o') (by have := (Array.getElem?_eq_some_iff.1 hK).1; omega) (fun k e => by cases e; exact hD)
theorem _root_.Go.Boxed.putObj {W : World} {b : Nat} {t : TypeId} {v : Value} (h : Boxed W b t v) {D : Nat} {o : Obj} (o' : Obj) (hK : W.heap[D]? = some o) (ho : o.isCells = false) : Boxed (W.putObj D o') b t v :=
  (Stays.boxed 0 b t v).putObj o' h (Nat.zero_le _) hK ho

end Go.Proofs.YtkfeofhifmebkaaGreatDoor
