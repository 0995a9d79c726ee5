/- Rows of the call's own and blocks, held apart by the types of their elements. -/
import Derived.Test.YtanidaepfepppaaDoorStr
namespace Go.Proofs.YtanidaepfepppaaDoor
open Go.RowKit

theorem own_keeps {W W' : World} {base sz n : Nat} {e : TypeId} {v : Value} {xs : List Value} (h : W.ownsRow base e sz v n xs) (hk : Keeps W W') : W'.ownsRow base e sz v n xs := by
  obtain ⟨hl, hr⟩ := h
  refine ⟨hl, hr.imp id ?_⟩
  rintro ⟨g, cap, cur, rfl, h3, h4, h5⟩
  exact ⟨g, cap, cur, rfl, h3, (hk.block g (Array.getElem?_eq_some_iff.1 h4).1).trans h4, h5⟩
theorem own_ne {W : World} {base sz n G : Nat} {e t : TypeId} {v : Value} {xs cs : List Value} (h : W.ownsRow base e sz v n xs) (hB : Blk W G t cs) (hne : e ≠ t) : some G ≠ v.ownBlock := by
  rcases h.2 with ⟨rfl, _⟩ | ⟨g, cap, cur, rfl, h3, h4, h5⟩
  · simp [Value.ownBlock]
  · intro he
    simp only [Value.ownBlock, Option.some.injEq] at he
    subst he
    have := hB.symm.trans h4
    simp only [Option.some.injEq, Obj.cells.injEq] at this
    exact hne this.2.1.symm
theorem blk_ne {W : World} {a b : Nat} {t t' : TypeId} {cs cs' : List Value} (h : Blk W a t cs) (h' : Blk W b t' cs') (hne : t ≠ t') : a ≠ b := by
  rintro rfl
  have := h.symm.trans h'
  simp only [Option.some.injEq, Obj.cells.injEq] at this
  exact hne this.2.1
theorem own_chg {S : Nat → Prop} {W W' : World} {base sz n : Nat} {e : TypeId} {v : Value} {xs : List Value} (h : W.ownsRow base e sz v n xs) (hc : Chg S W W') (hne : ∀ g, v.ownBlock = some g → ¬ S g) : W'.ownsRow base e sz v n xs := by
  obtain ⟨hl, hr⟩ := h
  refine ⟨hl, hr.imp id ?_⟩
  rintro ⟨g, cap, cur, rfl, h3, h4, h5⟩
  exact ⟨g, cap, cur, rfl, h3, (hc.block g (Array.getElem?_eq_some_iff.1 h4).1 (hne g rfl)).trans h4, h5⟩
theorem own_tag {W W' : World} {base base' sz sz' n n' : Nat} {e e' : TypeId} {v v' : Value} {xs xs' : List Value} (h : W.ownsRow base e sz v n xs) (h' : W.ownsRow base' e' sz' v' n' xs') (hne : e ≠ e') (hg : W.grownBy W' v'.ownBlock) : W'.ownsRow base e sz v n xs := by
  obtain ⟨hl, hr⟩ := h
  refine ⟨hl, hr.imp id ?_⟩
  rintro ⟨g, cap, cur, rfl, h3, h4, h5⟩
  have hB : Blk W g e cur.toList := by unfold Blk; rw [h4]
  exact ⟨g, cap, cur, rfl, h3, (hg.block g (Array.getElem?_eq_some_iff.1 h4).1 (own_ne h' hB (fun e => hne e.symm))).trans h4, h5⟩
/-- A row stays where two blocks of other types are written. -/
theorem own_two {W W' : World} {p b base sz n : Nat} {e t t' : TypeId} {v : Value} {xs cs cs' : List Value} (h : W.ownsRow base e sz v n xs) (hp : Blk W p t cs) (hb : Blk W b t' cs') (h1 : e ≠ t) (h2 : e ≠ t') (hc : Chg (fun k => k = p ∨ k = b) W W') : W'.ownsRow base e sz v n xs :=
  own_chg h hc fun g hg hs => by
    rcases hs with rfl | rfl
    · exact own_ne h hp h1 hg.symm
    · exact own_ne h hb h2 hg.symm
theorem RowS.keepsI {sz base : Nat} {e : TypeId} {W W' : World} {v : Value} {els : List (List Value)} (h : RowS sz base e W v els) (hk : Keeps W W') : RowS sz base e W' v els := ⟨own_keeps h.1 hk, h.2⟩
theorem own_new (w : World) (e : TypeId) (base : Nat) (cs : List Value) (hb : base ≤ w.heap.size) (hm : cs.length ≤ maxLen) : (w.alloc (.cells cs.toArray e)).ownsRow base e 1 (.slice (some ⟨w.heap.size, 0, none⟩) cs.length cs.length) cs.length cs :=
  ⟨by simp, .inr ⟨w.heap.size, cs.length, cs.toArray, rfl, hb, World.alloc_heap_new w _, Nat.le_refl _, hm, by simp, by simp⟩⟩
end Go.Proofs.YtanidaepfepppaaDoor
