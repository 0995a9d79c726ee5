/- TopCopies in Lean's own data: the tables, the deeds, and what the law answers. -/
import Derived.Test.YtkfeofhifmebkaaGreatDoorRowG
import Derived.Lib.TrailingZeros
import Derived.Lib.Space
import Derived.Lib.ItoaNum
import Derived.Lib.LaidTab
import Derived.Test.YtkfeofhifmebkaaGreatDoorKR4
namespace Go.Proofs.YtkfeofhifmebkaaGreatDoor
open Go Go.Ev Go.RowKit

/-! the tables -/
theorem repL_tab (ν : Nat → Int) (σ : Sg) (k : IntKind) (zs : List Int) : RepL ν σ (zs.map fun z => SV.int k (.lit z)) (zs.map fun z => Value.int k z) := by
  induction zs with
  | nil => exact RepL.nil
  | cons z zs ih => exact RepL.cons (by simp only [Rep]; rfl) ih
theorem tab_block {W : World} {name : String} {k : IntKind} {zs : List Int} {g : Nat} (hg : Tryz.prog.globalNamed name = some g) (h : Lib.TabIs Tryz.prog W name k zs) : g < W.heap.size ∧ ∃ C t f, W.heap[g]? = some (.cells C t f) ∧ C.toList = zs.map fun z => Value.int k z := by
  unfold Lib.TabIs World.var? at h
  rw [hg] at h
  simp only [Option.bind_some] at h
  split at h
  · rename_i cs t f hb
    cases h
    exact ⟨(Array.getElem?_eq_some_iff.1 hb).1, _, _, _, hb, by simp⟩
  · cases h
theorem tab_glob {W : World} {name : String} {k : IntKind} {zs : List Int} {g : Nat} {cs : List SV} (hg : Tryz.prog.globalNamed name = some g) (h : Lib.TabIs Tryz.prog W name k zs) (hcs : cs = zs.map fun z => SV.int k (.lit z)) (ν : Nat → Int) :
    g < W.heap.size ∧ ∃ C t f, W.heap[g]? = some (.cells C t f) ∧ ∀ σ, RepL ν σ cs C.toList := by
  obtain ⟨h1, C, t, f, h2, h3⟩ := tab_block hg h
  exact ⟨h1, C, t, f, h2, fun σ => by rw [h3, hcs]; exact repL_tab ν σ k zs⟩
structure TabsTop (W : World) : Prop where
  b64 : Lib.TabIs Tryz.prog W "math/bits.deBruijn64tab" .u8 (Lib.deBruijn64tab.map fun (n : Nat) => (n : Int))
  sp : Lib.TabIs Tryz.prog W "strings.asciiSpace" .u8 Lib.asciiSpaceTab
  pow : Lib.TabIs Tryz.prog W "internal/strconv.uint64pow10" .u64 Lib.pow10Tab
  b32 : Lib.TabIs Tryz.prog W "math/bits.deBruijn32tab" .u8 (Lib.deBruijn32tab.map fun (n : Nat) => (n : Int))
set_option maxRecDepth 100000 in
theorem tabs_glob {W : World} (h : TabsTop W) (ν : Nat → Int) : ∀ g cs, glob0f g = some cs → g < W.heap.size ∧ ∃ C t f, W.heap[g]? = some (.cells C t f) ∧ ∀ σ, RepL ν σ cs C.toList := by
  intro g cs e
  unfold glob0f at e
  split at e
  · cases e; exact tab_glob (by kernel_rfl) h.b64 (by kernel_rfl) ν
  · cases e; exact tab_glob (by kernel_rfl) h.sp (by kernel_rfl) ν
  · cases e; exact tab_glob (by kernel_rfl) h.pow (by kernel_rfl) ν
  · cases e; exact tab_glob (by kernel_rfl) h.b32 (by kernel_rfl) ν
  · cases e

/-! the deeds -/
def deedC (d : Int × Int × Int × Int) : List Value := [.int .i64 d.1, .int .i64 d.2.1, .int .i64 d.2.2.1, .int .i64 d.2.2.2]
def Deeds (W : World) (v : Value) (ds : List (Int × Int × Int × Int)) : Prop := SlcS 4 W v (ds.map deedC)
def inpOf (raw : Int) (ds : List (Int × Int × Int × Int)) (p : Option Addr) (cap : Nat) : Inp :=
  ⟨raw, ((IntKind.wrap .u64 raw).tmod 70).toNat, ds, match p with
    | some a => (a.block : Int)
    | Option.none => -1, match p with
    | some a => (a.off : Int)
    | Option.none => 0, (cap : Int), match p with
    | some a => (match a.spot with
      | some s => (s : Int)
      | Option.none => -1)
    | Option.none => -1⟩
theorem inpOf_ok (raw : Int) (ds : List (Int × Int × Int × Int)) (p : Option Addr) (cap : Nat) : (inpOf raw ds p cap).Ok := by
  have := tmod_small (wrap64 raw) 70 (by omega)
  refine ⟨?_, ?_⟩
  · show ((IntKind.wrap .u64 raw).tmod 70).toNat < 70
    omega
  · show (IntKind.wrap .u64 raw).tmod 70 = (((IntKind.wrap .u64 raw).tmod 70).toNat : Int)
    omega
theorem inpOf_slice (raw : Int) (ds : List (Int × Int × Int × Int)) (p : Option Addr) (cap : Nat) (q : Qs) : Value.slice p ds.length cap = .slice (topP ((inpOf raw ds p cap).V q).nu) ds.length (topC ((inpOf raw ds p cap).V q).nu) := by
  have e80 : ((inpOf raw ds p cap).V q).nu 80 = (inpOf raw ds p cap).s80 := ((inpOf raw ds p cap).V q).lo_eq (n := 80) (by omega)
  have e81 : ((inpOf raw ds p cap).V q).nu 81 = (inpOf raw ds p cap).s81 := ((inpOf raw ds p cap).V q).lo_eq (n := 81) (by omega)
  have e82 : ((inpOf raw ds p cap).V q).nu 82 = (inpOf raw ds p cap).s82 := ((inpOf raw ds p cap).V q).lo_eq (n := 82) (by omega)
  have e83 : ((inpOf raw ds p cap).V q).nu 83 = (inpOf raw ds p cap).s83 := ((inpOf raw ds p cap).V q).lo_eq (n := 83) (by omega)
  unfold topP topC
  rw [e80, e81, e82, e83]
  cases p with
  | none => rfl
  | some a =>
    obtain ⟨b, off, spot⟩ := a
    cases spot with
    | none =>
      show _ = Value.slice (if ((b : Nat) : Int) < 0 then Option.none else some ⟨((b : Nat) : Int).toNat, ((off : Nat) : Int).toNat, if (-1 : Int) < 0 then Option.none else some (-1 : Int).toNat⟩) ds.length ((cap : Nat) : Int).toNat
      rw [if_neg (by omega), if_pos (by omega), Int.toNat_natCast, Int.toNat_natCast, Int.toNat_natCast]
    | some s =>
      show _ = Value.slice (if ((b : Nat) : Int) < 0 then Option.none else some ⟨((b : Nat) : Int).toNat, ((off : Nat) : Int).toNat, if ((s : Nat) : Int) < 0 then Option.none else some ((s : Nat) : Int).toNat⟩) ds.length ((cap : Nat) : Int).toNat
      rw [if_neg (by omega), if_neg (by omega), Int.toNat_natCast, Int.toNat_natCast, Int.toNat_natCast, Int.toNat_natCast]
theorem copies_law {W : World} (hT : TabsTop W) (sl : Bool) (raw : Int) {v : Value} {ds : List (Int × Int × Int × Int)} (hv : Deeds W v ds) :
    Calls Tryz.prog 6 #[.bool sl, .int .i64 raw, v] W fun e w' => e = .returned (.bool true) ∧ Keeps W w' := by
  obtain ⟨p, cap, rfl, _, _, _, _, hcell⟩ := hv
  rw [List.length_map] at hcell ⊢
  refine callsIn_wide.1 (copies_calls (n := 0) (I := inpOf raw ds p cap) (inpOf_ok raw ds p cap) sl (fun i hi => ?_) (tabs_glob hT _) (inpOf_slice raw ds p cap _) (fun w' h => ⟨rfl, ⟨h.os, h.tape, h.output, h.size, h.keep⟩⟩))
  have hj : i < ds.length := hi
  obtain ⟨b, off, hp, hk⟩ := hcell i hj
  subst hp
  have e : (inpOf raw ds (some ⟨b, off, Option.none⟩) cap).deed i = ds[i]'hj := by
    show (ds[i]?).getD (0, 0, 0, 0) = _
    rw [List.getElem?_eq_getElem hj]; rfl
  have e2 : (ds.map deedC).getD i [] = deedC (ds[i]'hj) := by
    simp [List.getD, hj]
  refine ⟨Int.natCast_nonneg b, ?_, rfl, fun j hj => ?_⟩
  · show ((b : Nat) : Int).toNat < _
    rw [Int.toNat_natCast]
    exact cell_lt (hk 0 (by decide))
  · show W.cell? ⟨((b : Nat) : Int).toNat, ((off : Nat) : Int).toNat + i * 4 + j, Option.none⟩ = _
    rw [Int.toNat_natCast, Int.toNat_natCast, hk j hj, e, e2]
    match j, hj with
    | 0, _ => rfl
    | 1, _ => rfl
    | 2, _ => rfl
    | 3, _ => rfl

/-! the parameter -/
open Go.ChangeShapes Go.WideShapes Go.ChangeAt
theorem deedC_open {H : Type} {enc : TypeId × Value → H} {W : World} {base : Nat} {sp : Nat → Bool} {held : Bool} {el : List Value} (hl : el.length = 4) (h : ∃ n y, DataW.trod enc Tryz.prog W base sp held n 71 el = some y) : ∃ d, el = deedC d := by
  have f0 := field_at Tryz.underlying71 h 0 3 0 1 rfl (by kernel_rfl)
  have f1 := field_at Tryz.underlying71 h 1 3 1 1 rfl (by kernel_rfl)
  have f2 := field_at Tryz.underlying71 h 2 3 2 1 rfl (by kernel_rfl)
  have f3 := field_at Tryz.underlying71 h 3 3 3 1 rfl (by kernel_rfl)
  match el, hl with
  | [a, b, c, d], _ =>
    obtain ⟨n0, h0, _⟩ := cell_int Tryz.underlying3 f0
    obtain ⟨n1, h1, _⟩ := cell_int Tryz.underlying3 f1
    obtain ⟨n2, h2, _⟩ := cell_int Tryz.underlying3 f2
    obtain ⟨n3, h3, _⟩ := cell_int Tryz.underlying3 f3
    exact ⟨(n0, n1, n2, n3), by rw [h0, h1, h2, h3]; rfl⟩
set_option maxRecDepth 100000 in
theorem deeds_open {H : Type} {enc : TypeId × Value → H} {W : World} {base : Nat} {r : Reach} {b0 : Nat} {sp : Nat → Bool} {held : Bool} {v : Value} {d : DataW H} {ps : List MemPlace}
    (hval : Value.okWide Tryz.prog W r b0 68 v) (hd : DataW.Trod enc Tryz.prog W base sp held 68 v d ps) : ∃ ds, Deeds W v ds := by
  obtain ⟨els, hS, hF⟩ := structs_openG (sz := 4) Tryz.underlying68 (by kernel_rfl) (by decide) hval hd
  have hl : ∀ el ∈ els, el.length = 4 := by
    obtain ⟨_, _, _, _, _, _, h, _⟩ := hS
    exact h
  obtain ⟨ds, rfl⟩ := els_map (g := deedC) (fun el he => deedC_open (hl el he) (hF el he))
  exact ⟨ds, hS⟩
end Go.Proofs.YtkfeofhifmebkaaGreatDoor
