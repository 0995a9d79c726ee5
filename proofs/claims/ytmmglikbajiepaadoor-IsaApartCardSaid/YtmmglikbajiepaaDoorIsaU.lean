/- The text of an instruction: the plain part. -/
import Derived.Test.YtmmglikbajiepaaDoorIsaT
namespace Go.Proofs.YtmmglikbajiepaaDoor
open Go.RowKit Go.Lib

/-- A letter's part of a text. -/
def partL (i : InsS) (c : UInt8) : List UInt8 := if c = 100 then 114 :: itoa i.dst else if c = 115 then 114 :: itoa i.src else if c = 111 then itoa i.off else itoa i.imm
/-- What follows the name. -/
def tailB (i : InsS) (f : Bool) : List UInt8 → List UInt8
  | [] => []
  | c :: l => (if f then [32] else [44, 32]) ++ partL i c ++ tailB i false l
/-- A right instruction's text. -/
def textB (i : InsS) : List UInt8 := nameB i.op ++ tailB i true (shapeB i.op)
theorem tailB_join (i : InsS) : ∀ l, tailB i false l = joinTail [44, 32] (l.map (partL i))
  | [] => rfl
  | c :: l => by rw [tailB, tailB_join i l]; simp [joinTail]
theorem tailB_cons (i : InsS) (c : UInt8) (l : List UInt8) : tailB i true (c :: l) = 32 :: join ((c :: l).map (partL i)) [44, 32] := by
  rw [tailB, tailB_join, List.map_cons, join_cons]
  rfl
/-- What isa.Text puts, in its order. -/
def putsB (op : Int) : List UInt8 :=
  let u := usesM op
  let f := op == 65 || op == 67
  (if u.1 then [100] else []) ++ (if u.2.2.1 && f then [111] else []) ++ (if u.2.1 then [115] else []) ++ (if u.2.2.2 then [105] else []) ++ (if u.2.2.1 && !f then [111] else [])
theorem putsN : ∀ n : Fin 74, classM (n.1 : Int) = 0 ∨ putsB (n.1 : Int) = shapeB (n.1 : Int) := by decide +kernel
theorem puts_shape {op : Int} (h : classM op ≠ 0) : putsB op = shapeB op := by
  have h1 : 0 ≤ op ∧ op ≤ 73 := by
    have := class_range op
    omega
  have h2 := putsN ⟨op.toNat, by omega⟩
  simp only at h2
  rw [show ((op.toNat : Nat) : Int) = op by omega] at h2
  exact h2.resolve_left h
theorem shape_lettersN : ∀ n : Fin 74, ∀ c ∈ shapeB (n.1 : Int), c = 100 ∨ c = 115 ∨ c = 111 ∨ c = 105 := by decide +kernel
theorem name_lenN : ∀ n : Fin 74, (nameB (n.1 : Int)).length ≤ 5 := by decide +kernel
theorem name_len (op : Int) : (nameB op).length ≤ 5 := by
  by_cases hc : classM op = 0
  · rw [nameB_none hc]; simp
  · have h1 : 0 ≤ op ∧ op ≤ 73 := by
      have := class_range op
      omega
    have h2 := name_lenN ⟨op.toNat, by omega⟩
    simp only at h2
    rw [show ((op.toNat : Nat) : Int) = op by omega] at h2
    exact h2
end Go.Proofs.YtmmglikbajiepaaDoor
