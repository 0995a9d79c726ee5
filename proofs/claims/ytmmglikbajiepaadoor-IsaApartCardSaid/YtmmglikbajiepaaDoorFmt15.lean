/- strconv.Itoa: what it answers; what is kept. -/
import Derived.Test.YtmmglikbajiepaaDoorShelf15
import Derived.Test.YtmmglikbajiepaaDoorStr
import Derived.Test.YtmmglikbajiepaaDoorMut
namespace Go.Proofs.YtmmglikbajiepaaDoor
open Go.RowKit Go.Sort Go.Lib

theorem keeps_grow (w : World) (k : Nat) (os : Array Obj) : Keeps w (grow (w.drewN k) os) := by
  have h := Keeps.drewN w k
  refine ⟨h.os, h.tape, h.output, Nat.le_trans h.size (by simp [grow]), fun b hb => ?_⟩
  have hb2 : b < (w.drewN k).heap.size := Nat.lt_of_lt_of_le hb h.size
  rw [← h.block b hb]
  show ((w.drewN k).heap ++ os)[b]? = _
  rw [Array.getElem?_append_left hb2]
/-- The tables that strconv and strings read. -/
structure Tabs (w : World) : Prop where
  pow : TabIs Tryd.prog w "internal/strconv.uint64pow10" .u64 pow10Tab
  space : TabIs Tryd.prog w "strings.asciiSpace" .u8 asciiSpaceTab
theorem tabIs_keeps {w w' : World} {name : String} {k : IntKind} {zs : List Int} (h : TabIs Tryd.prog w name k zs) (hk : Keeps w w') : TabIs Tryd.prog w' name k zs := by
  unfold TabIs World.var? at *
  cases hg : Tryd.prog.globalNamed name with
  | none => simp [hg] at h
  | some g =>
    simp only [hg, Option.bind_some] at h ⊢
    have hlt : g < w.heap.size := by
      rcases Nat.lt_or_ge g w.heap.size with h' | h'
      · exact h'
      · rw [Array.getElem?_eq_none h'] at h; simp at h
    rw [hk.block g hlt]
    exact h
theorem Tabs.keeps {w w' : World} (h : Tabs w) (hk : Keeps w w') : Tabs w' := ⟨tabIs_keeps h.pow hk, tabIs_keeps h.space hk⟩
theorem itoa_any (n : Int) (h0 : -9223372036854775808 ≤ n) (h1 : n ≤ 9223372036854775807) (w : World) (hT : Tabs w) :
    Calls Tryd.prog 31 #[.int .i64 n] w fun e w' => e = .returned (.string ⟨(itoa n).toArray⟩) ∧ Keeps w w' := by
  refine (Tryd.strconv_Itoa n h0 h1 w hT.pow).mono ?_
  rintro e w' ⟨he, k, os, rfl⟩
  exact ⟨he, keeps_grow w k os⟩
end Go.Proofs.YtmmglikbajiepaaDoor
