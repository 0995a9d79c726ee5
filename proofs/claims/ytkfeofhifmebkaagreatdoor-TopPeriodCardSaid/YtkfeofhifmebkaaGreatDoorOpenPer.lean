/- TopPeriod in Lean's own data: the tables, and what the law answers. -/
import Derived.Test.YtkfeofhifmebkaaGreatDoorRowG
import Derived.Lib.TrailingZeros
import Derived.Lib.Space
import Derived.Lib.ItoaNum
import Derived.Lib.LaidTab
import Derived.Test.YtkfeofhifmebkaaGreatDoorPQ
namespace Go.Proofs.YtkfeofhifmebkaaGreatDoor
open Go Go.Ev Go.RowKit

/-! the tables -/
theorem repL_tab (ν : Nat → Int) (σ : Sg) (k : IntKind) (zs : List Int) : RepL ν σ (zs.map fun z => SV.int k (.lit z)) (zs.map fun z => Value.int k z) := by
  induction zs with
  | nil => exact RepL.nil
  | cons z zs ih => exact RepL.cons (by simp only [Rep]; rfl) ih
theorem tab_block {W : World} {name : String} {k : IntKind} {zs : List Int} {g : Nat} (hg : Tryz.prog.globalNamed name = some g) (h : Lib.TabIs Tryz.prog W name k zs) : g < W.heap.size ∧ ∃ C t f, W.heap[g]? = some (.cells C t f) ∧ C.toList = zs.map fun z => Value.int k z := by
  unfold Lib.TabIs World.var? at h
  rw [hg] at h
  simp only [Option.bind_some] at h
  split at h
  · rename_i cs t f hb
    cases h
    exact ⟨(Array.getElem?_eq_some_iff.1 hb).1, _, _, _, hb, by simp⟩
  · cases h
theorem tab_glob {W : World} {name : String} {k : IntKind} {zs : List Int} {g : Nat} {cs : List SV} (hg : Tryz.prog.globalNamed name = some g) (h : Lib.TabIs Tryz.prog W name k zs) (hcs : cs = zs.map fun z => SV.int k (.lit z)) (ν : Nat → Int) :
    g < W.heap.size ∧ ∃ C t f, W.heap[g]? = some (.cells C t f) ∧ ∀ σ, RepL ν σ cs C.toList := by
  obtain ⟨h1, C, t, f, h2, h3⟩ := tab_block hg h
  exact ⟨h1, C, t, f, h2, fun σ => by rw [h3, hcs]; exact repL_tab ν σ k zs⟩
structure TabsTop (W : World) : Prop where
  b64 : Lib.TabIs Tryz.prog W "math/bits.deBruijn64tab" .u8 (Lib.deBruijn64tab.map fun (n : Nat) => (n : Int))
  sp : Lib.TabIs Tryz.prog W "strings.asciiSpace" .u8 Lib.asciiSpaceTab
  pow : Lib.TabIs Tryz.prog W "internal/strconv.uint64pow10" .u64 Lib.pow10Tab
  b32 : Lib.TabIs Tryz.prog W "math/bits.deBruijn32tab" .u8 (Lib.deBruijn32tab.map fun (n : Nat) => (n : Int))
set_option maxRecDepth 100000 in
theorem tabs_glob {W : World} (h : TabsTop W) (ν : Nat → Int) : ∀ g cs, glob0f g = some cs → g < W.heap.size ∧ ∃ C t f, W.heap[g]? = some (.cells C t f) ∧ ∀ σ, RepL ν σ cs C.toList := by
  intro g cs e
  unfold glob0f at e
  split at e
  · cases e; exact tab_glob (by kernel_rfl) h.b64 (by kernel_rfl) ν
  · cases e; exact tab_glob (by kernel_rfl) h.sp (by kernel_rfl) ν
  · cases e; exact tab_glob (by kernel_rfl) h.pow (by kernel_rfl) ν
  · cases e; exact tab_glob (by kernel_rfl) h.b32 (by kernel_rfl) ν
  · cases e

/-! the law -/
theorem period_law {W : World} (hT : TabsTop W) {p n : Int} (hp : IntKind.wrap .i64 p = p) (hn : IntKind.wrap .i64 n = n) :
    Calls Tryz.prog 4 #[.int .i64 p, .int .i64 n] W fun e w' => e = .returned (.bool true) ∧ Keeps W w' :=
  callsIn_wide.1 (period_calls (n := 0) hp hn (tabs_glob hT _) (fun _ h => ⟨rfl, ⟨h.os, h.tape, h.output, h.size, h.keep⟩⟩))
end Go.Proofs.YtkfeofhifmebkaaGreatDoor
