/- WaitsPlay: what holds while the law goes, and each arm's plain part. -/
import Derived.Test.YtacdmiafppmabaaDoorLaw24d
import Derived.Test.YtacdmiafppmabaaDoorSeq
import Derived.Test.YtacdmiafppmabaaDoorQuietRow
namespace Go.Proofs.YtacdmiafppmabaaDoor
open Go.RowKit

/-- The waits, and the document's in the block M. -/
structure WP (w : World) (p : Nat) (bo : Option Nat) (n M : Nat) (f : WS) (W : World) : Prop where
  wi : WI w p bo n f W
  bm : Blk W M 38 (wc f)
  new : w.heap.size ≤ M
  nf : ¬ WF p bo M
section
variable {w W W2 : World} {p n M : Nat} {bo : Option Nat} {f : WS}
theorem WP.kept (h : WP w p bo n M f W) (hk : Keeps W W2) : WP w p bo n M f W2 := ⟨h.wi.kept hk, h.bm.keeps hk, h.new, h.nf⟩
theorem WP.up (h : WP w p bo n M f W) : WP w p bo (n + 1) M f W := ⟨h.wi.mono (Nat.le_succ n), h.bm, h.new, h.nf⟩
/-- The document's is stored anew. -/
theorem WP.store {bo' : Option Nat} {f' : WS} {old : List Value} (h : WI w p bo' n f' W) (hb : Blk W M 38 old) (hn : w.heap.size ≤ M) (hf : ¬ WF p bo' M) : WP w p bo' n M f' (W.setRow M (wc f').toArray) := by
  have hC : Chg (fun k => k = M) W (W.setRow M (wc f').toArray) := Chg.setRow _ rfl
  exact ⟨⟨h.at'.chg hC (fun k hk e => hf (e ▸ hk)), h.new, Chg.keeps hC h.keeps (fun k hk e => by omega)⟩, hb.setRow _, hn, hf⟩
theorem WP.setCell {x : Nat} (h : WI w p bo n (updW f x none) W) (hb : Blk W M 38 (wc f)) (hx : x < 32) (hn : w.heap.size ≤ M) (hf : ¬ WF p bo M) : WP w p bo n M (updW f x none) (W.setCell ⟨M, x, none⟩ (.int .i64 (-1))) := by
  have hC : Chg (fun k => k = M) W (W.setCell ⟨M, x, none⟩ (.int .i64 (-1))) := Chg.setCell _ _ rfl
  have h3 := hb.set x (.int .i64 (-1))
  have h4 := wc_set f x none hx
  simp only at h4
  rw [h4] at h3
  exact ⟨⟨h.at'.chg hC (fun k hk e => hf (e ▸ hk)), h.new, Chg.keeps hC h.keeps (fun k hk e => by omega)⟩, h3, hn, hf⟩
end
theorem such_two (f : WS) (x y : Int) : suchL f (fun c => [x, y].contains (c : Int)) 32 = suchL f (fun c => (c : Int) == x || (c : Int) == y) 32 := by
  congr 1
  funext c
  rw [List.contains_cons, List.contains_cons, List.contains_nil, Bool.or_false]
theorem such_same (f : WS) (b : Int) : suchW f (fun c => false || (c : Int) == b) 32 = suchW f (fun c => (c : Int) == b) 32 := by
  congr 1
theorem such_all (f : WS) (b : Int) : suchW f (fun c => true || (c : Int) == b) 32 = suchW f (fun _ => true) 32 := by
  congr 1
theorem whomB_true {f : WS} (hok : WOk f) {a : Int} (h : whomB f a = true) : ∃ x c : Nat, a = x ∧ f x = some c ∧ x < 32 ∧ c < 32 := by
  unfold whomB whom at h
  split at h
  · rename_i h0
    cases hf : f a.toNat with
    | none => rw [hf] at h; cases h
    | some c => exact ⟨a.toNat, c, by omega, hf, (hok.dom _ _ hf).1, (hok.dom _ _ hf).2⟩
  · cases h
theorem whomB_false {f : WS} {a : Int} (h : whomB f a = false) : a < 0 ∨ 32 ≤ a ∨ ∃ x : Nat, a = x ∧ x < 32 ∧ f x = none := by
  by_cases h0 : a < 0
  · exact .inl h0
  · by_cases h1 : 32 ≤ a
    · exact .inr (.inl h1)
    · refine .inr (.inr ⟨a.toNat, by omega, by omega, ?_⟩)
      unfold whomB whom at h
      rw [if_pos (by omega)] at h
      cases hf : f a.toNat with
      | none => rfl
      | some c => rw [hf] at h; cases h
end Go.Proofs.YtacdmiafppmabaaDoor
