/- Whole structs in a region that draws its order. -/
import Derived.Test.YtkfeofhifmebkaaGreatDoorStr
import Derived.Test.YtkfeofhifmebkaaGreatDoorQuiet
namespace Go.Proofs.YtkfeofhifmebkaaGreatDoor
open Go.RowKit

/-- Whole structs in a region that draws its order. -/
theorem quietRow {P : Program} {ops : Array Oper} {C : World → Prop} {Q : Act → Prop} {a : Act} {o : Oper} {rest : List Oper} {g : Nat} {t : TypeId} {cs : List Value} (hb : ∀ w', C w' → Blk w' g t cs) (hw : Region.wanted o (yielded ops a.tmps) = true) (ty : TypeId) (x : Operand) (ho : o.op = .load ty x)
    (hx : a.eval x = .pointer (some ⟨g, 0, none⟩)) (d : TypeDesc) (hu : P.underlying ty = some d) (hd : (match d with | .struct _ | .array _ _ => true | _ => false) = true) (n : Nat) (hi : (P.info? ty).map (·.size) = some n) (hn : cs.length = n)
    (h : wpQuiet P ops C Q rest (a.put o.dst (.agg cs.toArray))) : wpQuiet P ops C Q (o :: rest) a := by
  unfold wpQuiet
  rw [if_pos hw]
  refine ⟨.agg cs.toArray, fun w hC => ?_, h⟩
  have hl := run_loadVar_row (P := P) w g t ty cs.toArray (0, 0) d (hb w hC) hu hd (by rw [hi, List.size_toArray, hn])
  unfold Oper.quietAt execOp
  simp only [ho, hx, Instr.loadAt, Instr.sureAddr, Sem.run_bind, Sem.run_pure, Result.andThen_ok, hl]
  exact ⟨rfl, rfl⟩
end Go.Proofs.YtkfeofhifmebkaaGreatDoor
