/- The arguments of CallsPlays: calls with rows of numbers. -/
import Derived.Test.YtllnncojafcdoaaLaw11f
import Derived.Test.YtllnncojafcdoaaRowG
namespace Go.Proofs.Ytllnncojafcdoaa
open Go.ChangeShapes Go.WideShapes Go.ChangeAt Go.RowKit

theorem els_mapP {α : Type} {p : α → Prop} {els : List (List Value)} {g : α → List Value} (h : ∀ el ∈ els, ∃ a, el = g a ∧ p a) : ∃ l : List α, els = l.map g ∧ ∀ a ∈ l, p a := by
  induction els with
  | nil => exact ⟨[], rfl, fun _ h => by cases h⟩
  | cons el els ih =>
    obtain ⟨a, ha, hp⟩ := h el (by simp)
    obtain ⟨l, hl, hq⟩ := ih fun x hx => h x (by simp [hx])
    exact ⟨a :: l, by rw [ha, hl]; rfl, fun x hx => by rcases List.mem_cons.1 hx with rfl | hx; exact hp; exact hq x hx⟩
set_option maxRecDepth 100000 in
theorem acts11_open {H : Type} {enc : TypeId × Value → H} {W : World} {base : Nat} {r : Reach} {b0 : Nat} {sp : Nat → Bool} {held : Bool} {v : Value} {d : DataW H} {ps : List MemPlace}
    (hval : Value.okWide Try.prog W r b0 38 v) (hd : DataW.Trod enc Try.prog W base sp held 38 v d ps) : ∃ zs : List Act11, SlcS 4 W v (zs.map aEl) ∧ ∀ a ∈ zs, Ints W a.2.2.2.1 a.2.2.2.2 := by
  obtain ⟨els, hS, hF⟩ := structs_openG (sz := 4) Try.underlying38 (by kernel_rfl) (by decide) hval hd
  obtain ⟨zs, rfl, hp⟩ := els_mapP (els := els) (g := aEl) (p := fun a => Ints W a.2.2.2.1 a.2.2.2.2) fun el hel => by
    have hl := hS.size el hel
    have h := hF el hel
    have f0 := field_at Try.underlying43 h 0 3 0 1 rfl (by kernel_rfl)
    have f1 := field_at Try.underlying43 h 1 3 1 1 rfl (by kernel_rfl)
    have f2 := field_at Try.underlying43 h 2 3 2 1 rfl (by kernel_rfl)
    have f3 := field_at Try.underlying43 h 3 22 3 1 rfl (by kernel_rfl)
    match el, hl, f0, f1, f2, f3 with
    | [a, b, c, e], _, f0, f1, f2, f3 =>
      obtain ⟨n0, rfl, _⟩ := cell_int Try.underlying3 f0
      obtain ⟨n1, rfl, _⟩ := cell_int Try.underlying3 f1
      obtain ⟨n2, rfl, _⟩ := cell_int Try.underlying3 f2
      obtain ⟨ids, hids, _⟩ := cell_ints Try.underlying22 Try.underlying3 (by kernel_rfl) f3
      exact ⟨(n0, n1, n2, e, ids), rfl, hids⟩
  exact ⟨zs, hS, hp⟩
end Go.Proofs.Ytllnncojafcdoaa
