/- What an instruction has. -/
import Derived.Test.YtmmglikbajiepaaDoorIsaE
namespace Go.Proofs.YtmmglikbajiepaaDoor
open Go.RowKit

/-- An instruction. -/
structure InsS where
  op : Int
  dst : Int
  src : Int
  off : Int
  imm : Int
def insC (i : InsS) : List Value := [.int .i64 i.op, .int .i64 i.dst, .int .i64 i.src, .int .i64 i.off, .int .i64 i.imm]
def hasM (i : InsS) : Bool × Bool × Bool × Bool := (i.dst != 0, i.src != 0, i.off != 0, i.imm != 0)
set_option maxHeartbeats 1000000 in
theorem has_any (i : InsS) (w : World) : Calls Tryd.prog 27 #[.agg #[.int .i64 i.op, .int .i64 i.dst, .int .i64 i.src, .int .i64 i.off, .int .i64 i.imm]] w fun e w' => e = .returned (usesV (hasM i)) ∧ Keeps w w' := by
  obtain ⟨op, dst, src, off, imm⟩ := i
  have hB := Blk.new (w.alloc (.cells #[.int .i64 op, .int .i64 dst, .int .i64 src, .int .i64 off, .int .i64 imm] 34)) 58 [.bool (dst != 0), .bool (src != 0), .bool (off != 0), .bool (imm != 0)]
  rw [World.size_alloc] at hB
  replace hB := Lib.hid hB
  go_enter Tryd.func27, Tryd.ntmps27
  go_wp2_with fail
  refine bodyPost_ret (results_row (t := 58) rfl _ hB.out rfl _ Tryd.underlying58 rfl 4 sizeUses rfl) rfl ?_
  exact ⟨rfl, Keeps.trans (Keeps.alloc _ _) (Keeps.alloc _ _)⟩
end Go.Proofs.YtmmglikbajiepaaDoor
