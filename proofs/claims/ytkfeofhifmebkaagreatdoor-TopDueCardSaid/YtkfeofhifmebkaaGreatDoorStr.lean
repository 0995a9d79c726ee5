/- Slices of structs: rows of the call's own, appending to them, parts of them. -/
import Derived.Test.YtkfeofhifmebkaaGreatDoorBase
import Derived.Laws.Rows
import Derived.Laws.Tables
import Derived.Deep.Cut
namespace Go.Proofs.YtkfeofhifmebkaaGreatDoor
open Go.RowKit

/-! ### Lists of lists of one length -/
theorem flat_get {sz : Nat} : ∀ {els : List (List Value)}, (∀ el ∈ els, el.length = sz) → ∀ (i j : Nat), i < els.length → j < sz → els.flatten[i * sz + j]? = some ((els.getD i []).getD j undef)
  | [], _, i, j, hi, _ => absurd hi (Nat.not_lt_zero i)
  | el :: els, h, 0, j, _, hj => by
    have he := h el (by simp)
    rw [Nat.zero_mul, Nat.zero_add, List.flatten_cons, List.getElem?_append_left (by omega)]
    simp [List.getD, he, hj]
  | el :: els, h, i + 1, j, hi, hj => by
    have he := h el (by simp)
    have := flat_get (els := els) (fun x hx => h x (by simp [hx])) i j (by simpa using hi) hj
    rw [List.flatten_cons, List.getElem?_append_right (by rw [he, Nat.succ_mul]; omega), he, show (i + 1) * sz + j - sz = i * sz + j by rw [Nat.succ_mul]; omega, this]
    simp
theorem mem_take {α : Type} {l : List α} {k : Nat} {P : α → Prop} (h : ∀ x ∈ l, P x) : ∀ x ∈ l.take k, P x := fun x hx => h x (List.mem_of_mem_take hx)
theorem mem_drop {α : Type} {l : List α} {k : Nat} {P : α → Prop} (h : ∀ x ∈ l, P x) : ∀ x ∈ l.drop k, P x := fun x hx => h x (List.mem_of_mem_drop hx)

/-! ### Parts of slices -/
theorem SlcS.size {sz : Nat} {w : World} {v : Value} {els : List (List Value)} (h : SlcS sz w v els) : ∀ el ∈ els, el.length = sz := by obtain ⟨_, _, _, _, _, _, h, _⟩ := h; exact h
theorem SlcS.len {sz : Nat} {w : World} {v : Value} {els : List (List Value)} (h : SlcS sz w v els) : els.length ≤ maxLen := by obtain ⟨_, _, _, h1, h2, _⟩ := h; omega
theorem SlcS.take {sz : Nat} {w : World} {p : Option Addr} {n cap : Nat} {els : List (List Value)} (h : SlcS sz w (.slice p n cap) els) (k : Nat) (hk : k ≤ els.length) : SlcS sz w (.slice p k cap) (els.take k) := by
  obtain ⟨q, c, hv, hl, hc, hn, hs, h⟩ := h
  simp only [Value.slice.injEq] at hv
  obtain ⟨rfl, rfl, rfl⟩ := hv
  have e : (els.take k).length = k := by rw [List.length_take]; omega
  refine ⟨p, cap, by rw [e], by omega, hc, hn, mem_take hs, fun i hi => ?_⟩
  rw [e] at hi
  obtain ⟨b, off, hp, hcell⟩ := h i (by omega)
  refine ⟨b, off, hp, fun j hj => ?_⟩
  rw [hcell j hj]; simp [List.getD, hi]
/-- 'l[k:]', k below the capacity. -/
theorem SlcS.drop {sz : Nat} {w : World} {b off n cap : Nat} {els : List (List Value)} (h : SlcS sz w (.slice (some ⟨b, off, none⟩) n cap) els) (k : Nat) (hk : k ≤ els.length) : SlcS sz w (.slice (some ⟨b, off + k * sz, none⟩) (n - k) (cap - k)) (els.drop k) := by
  obtain ⟨q, c, hv, hl, hc, hn, hs, h⟩ := h
  simp only [Value.slice.injEq] at hv
  obtain ⟨rfl, rfl, rfl⟩ := hv
  have e : (els.drop k).length = els.length - k := by rw [List.length_drop]
  refine ⟨_, cap - k, by rw [e], by omega, by omega, fun h => (by cases h), mem_drop hs, fun i hi => ?_⟩
  rw [e] at hi
  obtain ⟨b', off', hp, hcell⟩ := h (k + i) (by omega)
  simp only [Option.some.injEq, Addr.mk.injEq, and_true] at hp
  obtain ⟨rfl, rfl⟩ := hp
  refine ⟨b, off + k * sz, rfl, fun j hj => ?_⟩
  have := hcell j hj
  rw [Nat.add_mul, ← Nat.add_assoc] at this
  rw [this]; simp [List.getD]

/-! ### Rows of the call's own -/
/-- v holds els in a row of the call's own, from block base on. -/
def RowS (sz : Nat) (base : Nat) (e : TypeId) (w : World) (v : Value) (els : List (List Value)) : Prop := w.ownsRow base e sz v els.length els.flatten ∧ ∀ el ∈ els, el.length = sz
theorem RowS.nil (sz base : Nat) (e : TypeId) (w : World) : RowS sz base e w (.slice none 0 0) [] := ⟨⟨by simp, .inl ⟨rfl, rfl⟩⟩, fun _ h => (by cases h)⟩
theorem RowS.slcs {sz base : Nat} {e : TypeId} {w : World} {v : Value} {els : List (List Value)} (h : RowS sz base e w v els) : SlcS sz w v els := by
  obtain ⟨⟨hl, h⟩, hs⟩ := h
  rcases h with ⟨rfl, h0⟩ | ⟨g, cap, cur, rfl, _, hg, hn, hm, hc, ht⟩
  · obtain rfl : els = [] := List.eq_nil_of_length_eq_zero h0
    exact SlcS.nil sz w
  · refine ⟨_, cap, rfl, hn, hm, fun h => (by cases h), hs, fun i hi => ⟨g, 0, rfl, fun j hj => ?_⟩⟩
    have hb : Blk w g e cur.toList := hg
    have hlt : i * sz + j < els.length * sz := Nat.lt_of_lt_of_le (Nat.add_lt_add_left hj _) (by rw [← Nat.succ_mul]; exact Nat.mul_le_mul_right sz hi)
    have hle : els.length * sz ≤ cap * sz := Nat.mul_le_mul_right sz hn
    rw [Nat.zero_add, hb.cellD (i * sz + j) (by simp only [Array.length_toList]; omega)]
    have hf := flat_get hs i j hi hj
    rw [← ht, List.getElem?_take] at hf
    rw [if_pos hlt] at hf
    simp only [List.getD, hf, Option.getD_some]
theorem RowS.lt {sz base : Nat} {e : TypeId} {w : World} {v : Value} {els : List (List Value)} (h : RowS sz base e w v els) : ∀ b off l c, v = .slice (some ⟨b, off, none⟩) l c → base ≤ b := by
  rintro b off l c rfl
  rcases h.1.2 with ⟨h, _⟩ | ⟨g, cap, cur, h, hb, _⟩
  · cases h
  · simp only [Value.slice.injEq, Option.some.injEq, Addr.mk.injEq] at h
    omega

/-! ### 'out = append(out, src...)' -/
/-! ### What may have turned -/
/-- Of the blocks that were there only those of S may have turned. -/
structure Chg (S : Nat → Prop) (w w' : World) : Prop where
  os : w'.os = w.os
  tape : w'.tape = w.tape
  output : w'.output = w.output
  size : w.heap.size ≤ w'.heap.size
  block : ∀ k, k < w.heap.size → ¬ S k → w'.heap[k]? = w.heap[k]?
theorem Chg.refl (S : Nat → Prop) (w : World) : Chg S w w := ⟨rfl, rfl, rfl, Nat.le_refl _, fun _ _ _ => rfl⟩
theorem Chg.of_below {S : Nat → Prop} {n : Nat} {w w' : World} (h : Below n w w') (hS : ∀ k, k < w.heap.size → ¬ S k → k < n) : Chg S w w' := ⟨h.os, h.tape, h.output, h.size, fun k hk hn => h.block k (hS k hk hn)⟩
theorem Chg.of_keeps {S : Nat → Prop} {w w' : World} (h : Keeps w w') : Chg S w w' := Chg.of_below h fun _ hk _ => hk
theorem Chg.trans {S : Nat → Prop} {x y z : World} (h : Chg S x y) (k : Chg S y z) : Chg S x z :=
  ⟨k.os.trans h.os, k.tape.trans h.tape, k.output.trans h.output, Nat.le_trans h.size k.size, fun i hi hn => (k.block i (Nat.lt_of_lt_of_le hi h.size) hn).trans (h.block i hi hn)⟩
theorem Chg.mono {S T : Nat → Prop} {w w' : World} (h : Chg S w w') (hST : ∀ k, k < w.heap.size → S k → T k) : Chg T w w' := ⟨h.os, h.tape, h.output, h.size, fun k hk hn => h.block k hk fun hs => hn (hST k hk hs)⟩
theorem Chg.below {S : Nat → Prop} {n : Nat} {w w' : World} (h : Chg S w w') (hn : n ≤ w.heap.size) (hS : ∀ k, k < n → ¬ S k) : Below n w w' := ⟨h.os, h.tape, h.output, h.size, fun k hk => h.block k (by omega) (hS k hk)⟩
theorem Chg.setCell {S : Nat → Prop} {b : Nat} {w : World} (k : Nat) (v : Value) (hb : S b) : Chg S w (w.setCell ⟨b, k, none⟩ v) :=
  ⟨rfl, rfl, rfl, by simp [World.setCell], fun i _ hn => Below.heap_setCell w ⟨b, k, none⟩ v i fun e => hn (e ▸ hb)⟩
theorem Chg.setRow {S : Nat → Prop} {b : Nat} {w : World} (cs : Array Value) (hb : S b) : Chg S w (w.setRow b cs) :=
  ⟨rfl, rfl, rfl, by simp [World.setRow], fun i _ hn => by
    have : b ≠ i := fun e => hn (e ▸ hb)
    simp [World.setRow, Array.getElem?_modify, this]⟩
theorem Chg.keeps {w0 w w' : World} {S : Nat → Prop} (h : Chg S w w') (hk : Keeps w0 w) (hS : ∀ k, k < w0.heap.size → ¬ S k) : Keeps w0 w' := Below.trans hk (h.below hk.size hS)
theorem Blk.chg {S : Nat → Prop} {W W' : World} {b : Nat} {t : TypeId} {cs : List Value} (h : Blk W b t cs) (hc : Chg S W W') (hn : ¬ S b) : Blk W' b t cs := (hc.block b h.lt hn).trans h
theorem Slc.chg {S : Nat → Prop} {w w' : World} {v : Value} {xs : List Value} (h : Slc w v xs) (hm : Chg S w w') (hsep : ∀ b, v.ownBlock = some b → ¬ S b) : Slc w' v xs := by
  obtain ⟨q, cap, rfl, hl, hc, hn, h⟩ := h
  refine ⟨q, cap, rfl, hl, hc, hn, fun k hk => ?_⟩
  obtain ⟨c, off, rfl, hcell⟩ := h k hk
  exact ⟨c, off, rfl, (World.cell?_of_block (w := w) (hm.block c (cell_lt hcell) (hsep c rfl))).trans hcell⟩
theorem SlcS.chg {S : Nat → Prop} {sz : Nat} {w w' : World} {v : Value} {els : List (List Value)} (h : SlcS sz w v els) (hm : Chg S w w') (hsep : ∀ b, v.ownBlock = some b → ¬ S b) : SlcS sz w' v els := by
  obtain ⟨q, cap, rfl, hl, hc, hn, hs, h⟩ := h
  refine ⟨q, cap, rfl, hl, hc, hn, hs, fun i hi => ?_⟩
  obtain ⟨c, off, rfl, hcell⟩ := h i hi
  exact ⟨c, off, rfl, fun j hj => (World.cell?_of_block (w := w) (hm.block c (cell_lt (hcell j hj)) (hsep c rfl))).trans (hcell j hj)⟩
theorem RowS.own {sz base : Nat} {e : TypeId} {w : World} {v : Value} {els : List (List Value)} (h : RowS sz base e w v els) : ∀ b, v.ownBlock = some b → base ≤ b := by
  intro b hb
  rcases h.1.2 with ⟨rfl, _⟩ | ⟨g, cap, cur, rfl, hg, _⟩
  · simp [Value.ownBlock] at hb
  · obtain rfl : g = b := by simpa [Value.ownBlock] using hb
    exact hg
theorem RowS.chg {S : Nat → Prop} {sz base : Nat} {e : TypeId} {w w' : World} {v : Value} {els : List (List Value)} (h : RowS sz base e w v els) (hm : Chg S w w') (hsep : ∀ b, base ≤ b → ¬ S b) : RowS sz base e w' v els := by
  refine ⟨⟨h.1.1, ?_⟩, h.2⟩
  rcases h.1.2 with h0 | ⟨g, cap, cur, hv, hb, hg, hr⟩
  · exact .inl h0
  · exact .inr ⟨g, cap, cur, hv, hb, (hm.block g ((Array.getElem?_eq_some_iff.1 hg).1) (hsep g hb)).trans hg, hr⟩
theorem RowS.alloc {sz base : Nat} {e : TypeId} {w : World} {v : Value} {els : List (List Value)} (h : RowS sz base e w v els) (o : Obj) : RowS sz base e (w.alloc o) v els := ⟨h.1.alloc _, h.2⟩
theorem RowS.base_le {sz base base' : Nat} {e : TypeId} {w : World} {v : Value} {els : List (List Value)} (h : RowS sz base e w v els) (hb : base' ≤ base) : RowS sz base' e w v els := by
  refine ⟨⟨h.1.1, ?_⟩, h.2⟩
  rcases h.1.2 with h0 | ⟨g, cap, cur, hv, hbg, hg, hr⟩
  · exact .inl h0
  · exact .inr ⟨g, cap, cur, hv, by omega, hg, hr⟩
theorem Blk.setRow {W : World} {b : Nat} {t : TypeId} {cs : List Value} (h : Blk W b t cs) (cs' : List Value) : Blk (W.setRow b cs'.toArray) b t cs' := by
  obtain ⟨hlt, hk⟩ := Array.getElem?_eq_some_iff.1 h
  show (W.heap.modify b _)[b]? = _
  rw [Array.getElem?_eq_getElem (by rw [Array.size_modify]; exact hlt), Array.getElem_modify_self, hk]
/-! ### Whole structs, loaded and stored -/
theorem RowS.slice {sz base : Nat} {e : TypeId} {w : World} {v : Value} {els : List (List Value)} (h : RowS sz base e w v els) (hp : 0 < els.length) : ∃ g cap, v = .slice (some ⟨g, 0, none⟩) els.length cap ∧ base ≤ g := by
  rcases h.1.2 with ⟨_, h0⟩ | ⟨g, cap, cur, hv, hb, _⟩
  · omega
  · exact ⟨g, cap, hv, hb⟩
/-! ### The world behind a name -/
theorem Blk.at {W : World} {t : TypeId} {cs : List Value} {arr : Array Value} {b : Nat} (hb : b = W.heap.size) (ha : arr = cs.toArray) : Blk (W.alloc (.cells arr t)) b t cs := by subst hb ha; exact Blk.new W t cs
end Go.Proofs.YtkfeofhifmebkaaGreatDoor
