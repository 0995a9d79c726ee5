/- TopDue in Lean's own data: the tables, the acts, and what the law answers. -/
import Derived.Test.YtkfeofhifmebkaaGreatDoorRowG
import Derived.Lib.TrailingZeros
import Derived.Lib.Space
import Derived.Lib.ItoaNum
import Derived.Lib.LaidTab
import Derived.Test.YtkfeofhifmebkaaGreatDoorDR
namespace Go.Proofs.YtkfeofhifmebkaaGreatDoor
open Go Go.Ev Go.RowKit

/-! the tables -/
theorem repL_tab (ν : Nat → Int) (σ : Sg) (k : IntKind) (zs : List Int) : RepL ν σ (zs.map fun z => SV.int k (.lit z)) (zs.map fun z => Value.int k z) := by
  induction zs with
  | nil => exact RepL.nil
  | cons z zs ih => exact RepL.cons (by simp only [Rep]; rfl) ih
theorem tab_block {W : World} {name : String} {k : IntKind} {zs : List Int} {g : Nat} (hg : Tryz.prog.globalNamed name = some g) (h : Lib.TabIs Tryz.prog W name k zs) : g < W.heap.size ∧ ∃ C t f, W.heap[g]? = some (.cells C t f) ∧ C.toList = zs.map fun z => Value.int k z := by
  unfold Lib.TabIs World.var? at h
  rw [hg] at h
  simp only [Option.bind_some] at h
  split at h
  · rename_i cs t f hb
    cases h
    exact ⟨(Array.getElem?_eq_some_iff.1 hb).1, _, _, _, hb, by simp⟩
  · cases h
theorem tab_glob {W : World} {name : String} {k : IntKind} {zs : List Int} {g : Nat} {cs : List SV} (hg : Tryz.prog.globalNamed name = some g) (h : Lib.TabIs Tryz.prog W name k zs) (hcs : cs = zs.map fun z => SV.int k (.lit z)) (ν : Nat → Int) :
    g < W.heap.size ∧ ∃ C t f, W.heap[g]? = some (.cells C t f) ∧ ∀ σ, RepL ν σ cs C.toList := by
  obtain ⟨h1, C, t, f, h2, h3⟩ := tab_block hg h
  exact ⟨h1, C, t, f, h2, fun σ => by rw [h3, hcs]; exact repL_tab ν σ k zs⟩
structure TabsTop (W : World) : Prop where
  b64 : Lib.TabIs Tryz.prog W "math/bits.deBruijn64tab" .u8 (Lib.deBruijn64tab.map fun (n : Nat) => (n : Int))
  sp : Lib.TabIs Tryz.prog W "strings.asciiSpace" .u8 Lib.asciiSpaceTab
  pow : Lib.TabIs Tryz.prog W "internal/strconv.uint64pow10" .u64 Lib.pow10Tab
  b32 : Lib.TabIs Tryz.prog W "math/bits.deBruijn32tab" .u8 (Lib.deBruijn32tab.map fun (n : Nat) => (n : Int))
set_option maxRecDepth 100000 in
theorem tabs_glob {W : World} (h : TabsTop W) (ν : Nat → Int) : ∀ g cs, glob0f g = some cs → g < W.heap.size ∧ ∃ C t f, W.heap[g]? = some (.cells C t f) ∧ ∀ σ, RepL ν σ cs C.toList := by
  intro g cs e
  unfold glob0f at e
  split at e
  · cases e; exact tab_glob (by kernel_rfl) h.b64 (by kernel_rfl) ν
  · cases e; exact tab_glob (by kernel_rfl) h.sp (by kernel_rfl) ν
  · cases e; exact tab_glob (by kernel_rfl) h.pow (by kernel_rfl) ν
  · cases e; exact tab_glob (by kernel_rfl) h.b32 (by kernel_rfl) ν
  · cases e

/-! the acts -/
def actC (d : Int × Int) : List Value := [.int .i64 d.1, .int .i64 d.2]
def Acts (W : World) (v : Value) (ds : List (Int × Int)) : Prop := SlcS 2 W v (ds.map actC)
noncomputable def topsOf (p : Option Addr) (cap : Nat) (j : Nat) : Int := match j with
  | 0 => (match p with
    | some a => (a.block : Int)
    | Option.none => -1)
  | 1 => (match p with
    | some a => (a.off : Int)
    | Option.none => 0)
  | 2 => (cap : Int)
  | _ => (match p with
    | some a => (match a.spot with
      | some s => (s : Int)
      | Option.none => -1)
    | Option.none => -1)
noncomputable def flN (x : Int) : Nat := ((IntKind.wrap .u64 x).tmod 4).toNat
noncomputable def cpN (x : Int) : Nat := ((IntKind.wrap .u64 x).tmod 2).toNat
theorem flN_val (x : Int) : ((flN x : Nat) : Int) = (IntKind.wrap .u64 x).tmod 4 ∧ flN x < 4 := by
  unfold flN
  have := wrapU x
  rw [Int.tmod_eq_emod_of_nonneg this.1]
  omega
theorem cpN_val (x : Int) : ((cpN x : Nat) : Int) = (IntKind.wrap .u64 x).tmod 2 ∧ cpN x < 2 := by
  unfold cpN
  have := wrapU x
  rw [Int.tmod_eq_emod_of_nonneg this.1]
  omega
theorem clampN_le {a d : Nat} (ha : a < 18446744073709551615) : ((clampN a d : Nat) : Int) - a ≤ 132120575 := by unfold clampN; omega
theorem dueP_nn (A n : Nat) : 0 ≤ dueP A n := by
  unfold dueP
  split
  · omega
  · exact (wrapU _).1
/-- the numbers of an input -/
theorem di_ex {n0 tk : Nat} {fr cr : Int} {ds : List (Int × Int)} (tops : Nat → Int) (h0 : n0 < 18446744073709551616) (h1 : tk < 18446744073709551616) (h2 : IntKind.wrap .i64 fr = fr) (h3 : IntKind.wrap .i64 cr = cr) (h4 : ∀ d ∈ ds, IntKind.wrap .i64 d.1 = d.1 ∧ IntKind.wrap .i64 d.2 = d.2) :
    ∃ I : Di, I.Ok ∧ I.n0 = n0 ∧ I.tk = tk ∧ I.fr = fr ∧ I.cr = cr ∧ I.ds = ds ∧ I.tops = tops := by
  obtain ⟨f1, f2⟩ := flN_val fr
  obtain ⟨c1, c2⟩ := cpN_val cr
  generalize flN fr = fl at f1 f2
  generalize cpN cr = cp at c1 c2
  have hpc : ∃ pc on : Nat, (pc = 0 ∧ fl < 2 ∧ on = 0) ∨ (pc = 1 ∧ 2 ≤ fl ∧ cp = 0 ∧ on = 0) ∨ (pc = 2 ∧ 2 ≤ fl ∧ cp = 1 ∧ on = 1) := by
    by_cases g : fl < 2
    · exact ⟨0, 0, .inl ⟨rfl, g, rfl⟩⟩
    · by_cases g2 : cp = 0
      · exact ⟨1, 0, .inr (.inl ⟨rfl, by omega, g2, rfl⟩)⟩
      · exact ⟨2, 1, .inr (.inr ⟨rfl, by omega, by omega, rfl⟩)⟩
  obtain ⟨pc, on, hpc⟩ := hpc
  obtain ⟨dt, hdt⟩ : ∃ dt : Nat, dt = if fl % 2 = 1 then max n0 tk else n0 + tk := ⟨_, rfl⟩
  obtain ⟨ok, hok⟩ : ∃ ok : Bool, ok = decide (((n0 : Nat) : Int) < 18446744073709551615 ∧ ((dt : Nat) : Int) < 18446744073709551615) := ⟨_, rfl⟩
  cases ok with
  | false =>
    refine ⟨⟨n0, tk, fr, cr, fl, cp, pc, on, false, 0, 0, 0, 0, 0, ds, tops⟩, { u64 := ⟨h0, h1⟩, fr := ⟨h2, h3⟩, ds := h4, fl := f1, cp := c1, pc := hpc, ok := ?_, dl := fun e => (nomatch e), S := (show (0 : Nat) < 64 by decide), lv := (show (0 : Nat) < 8 by decide), arm := fun e => (nomatch e) }, rfl, rfl, rfl, rfl, rfl, rfl⟩
    unfold Di.at
    dsimp only
    rw [← hdt]; exact hok
  | true =>
    have hlt := of_decide_eq_true hok.symm
    have hn : n0 < 18446744073709551615 := by omega
    obtain ⟨A, hA⟩ : ∃ A : Nat, A = clampN n0 dt := ⟨_, rfl⟩
    have hle := clampN_le (d := dt) hn
    rw [← hA] at hle
    obtain ⟨lv, l1, l2, l3⟩ := lvl_ex (((A : Int) - n0) / 63) (by omega)
    have hD := dueP_nn A lv
    have hN := numP_nn A lv
    refine ⟨⟨n0, tk, fr, cr, fl, cp, pc, on, true, dt, A, lv, (numP A lv % 64).toNat, (dueP A lv).toNat, ds, tops⟩, { u64 := ⟨h0, h1⟩, fr := ⟨h2, h3⟩, ds := h4, fl := f1, cp := c1, pc := hpc, ok := ?_, dl := fun _ => ?_, S := ?_, lv := l1, arm := fun _ => ⟨hn, ?_, hA, ⟨l2, l3⟩, Int.toNat_of_nonneg hD, Int.toNat_of_nonneg (Int.emod_nonneg _ (by decide))⟩ }, rfl, rfl, rfl, rfl, rfl, rfl⟩
    · unfold Di.at
      dsimp only
      rw [← hdt]; exact hok
    · unfold Di.at
      dsimp only
      exact hdt
    · dsimp only
      omega
    · dsimp only
      omega
theorem tops_slice (p : Option Addr) (cap : Nat) {l : Nat} {q : Dn} (hq : q.tops = topsOf p cap) : Value.slice p l cap = .slice (topP q.V 80) l (topC q.V 80) := by
  have e80 : q.V 80 = topsOf p cap 0 := by rw [← hq]; exact q.vtop (j := 0) (by decide)
  have e81 : q.V 81 = topsOf p cap 1 := by rw [← hq]; exact q.vtop (j := 1) (by decide)
  have e82 : q.V 82 = topsOf p cap 2 := by rw [← hq]; exact q.vtop (j := 2) (by decide)
  have e83 : q.V 83 = topsOf p cap 3 := by rw [← hq]; exact q.vtop (j := 3) (by decide)
  unfold topP topC
  rw [e80, e81, e82, e83]
  cases p with
  | none => rfl
  | some a =>
    obtain ⟨b, off, spot⟩ := a
    cases spot with
    | none =>
      show _ = Value.slice (if ((b : Nat) : Int) < 0 then Option.none else some ⟨((b : Nat) : Int).toNat, ((off : Nat) : Int).toNat, if (-1 : Int) < 0 then Option.none else some (-1 : Int).toNat⟩) l ((cap : Nat) : Int).toNat
      rw [if_neg (by omega), if_pos (by omega), Int.toNat_natCast, Int.toNat_natCast, Int.toNat_natCast]
    | some s =>
      show _ = Value.slice (if ((b : Nat) : Int) < 0 then Option.none else some ⟨((b : Nat) : Int).toNat, ((off : Nat) : Int).toNat, if ((s : Nat) : Int) < 0 then Option.none else some ((s : Nat) : Int).toNat⟩) l ((cap : Nat) : Int).toNat
      rw [if_neg (by omega), if_neg (by omega), Int.toNat_natCast, Int.toNat_natCast, Int.toNat_natCast, Int.toNat_natCast]
theorem q0_tops (I : Di) : I.q0.tops = I.tops := by unfold Di.q0; rfl
theorem due_law {W : World} (hT : TabsTop W) {n0 tk : Nat} {fr cr : Int} {v : Value} {ds : List (Int × Int)} (h0 : n0 < 18446744073709551616) (h1 : tk < 18446744073709551616) (h2 : IntKind.wrap .i64 fr = fr) (h3 : IntKind.wrap .i64 cr = cr) (h4 : ∀ d ∈ ds, IntKind.wrap .i64 d.1 = d.1 ∧ IntKind.wrap .i64 d.2 = d.2) (hv : Acts W v ds) :
    Calls Tryz.prog 5 #[.int .u64 n0, .int .u64 tk, .int .i64 fr, .int .i64 cr, v] W fun e w' => e = .returned (.bool true) ∧ Keeps W w' := by
  obtain ⟨p, cap, rfl, _, _, _, _, hcell⟩ := hv
  rw [List.length_map] at hcell ⊢
  obtain ⟨I, hI, e0, e1, e2, e3, e4, e5⟩ := di_ex (topsOf p cap) h0 h1 h2 h3 h4
  have hc := due_calls (n := 0) (W := W) hI ⟨fun i hi => ?_⟩ (tabs_glob hT _) (V4 := .slice p ds.length cap) (by rw [e4]; exact tops_slice p cap (by rw [q0_tops, e5])) (R := fun e w' => e = .returned (.bool true) ∧ Keeps W w') (fun w' h => ⟨rfl, ⟨h.os, h.tape, h.output, h.size, h.keep⟩⟩)
  · rw [e0, e1, e2, e3] at hc
    exact callsIn_wide.1 hc
  · rw [e4] at hi
    obtain ⟨b, off, hp, hk⟩ := hcell i hi
    subst hp
    have ed : I.deed i = ds[i]'hi := by
      unfold Di.deed
      rw [e4, List.getElem?_eq_getElem hi]; rfl
    have e2 : (ds.map actC).getD i [] = actC (ds[i]'hi) := by
      simp [List.getD, hi]
    rw [e5, ed]
    have t0 : topsOf (some ⟨b, off, Option.none⟩) cap 0 = (b : Int) := rfl
    have t1 : topsOf (some ⟨b, off, Option.none⟩) cap 1 = (off : Int) := rfl
    have t3 : topsOf (some ⟨b, off, Option.none⟩) cap 3 = -1 := rfl
    rw [t0, t1, t3, Int.toNat_natCast, Int.toNat_natCast]
    refine ⟨Int.natCast_nonneg b, cell_lt (hk 0 (by decide)), by decide, ?_, ?_⟩
    · rw [hk 0 (by decide), e2]; rfl
    · rw [hk 1 (by decide), e2]; rfl

/-! the parameter -/
open Go.ChangeShapes Go.WideShapes Go.ChangeAt
theorem actC_open {H : Type} {enc : TypeId × Value → H} {W : World} {base : Nat} {sp : Nat → Bool} {held : Bool} {el : List Value} (hl : el.length = 2) (h : ∃ n y, DataW.trod enc Tryz.prog W base sp held n 62 el = some y) : ∃ d : Int × Int, el = actC d ∧ IntKind.wrap .i64 d.1 = d.1 ∧ IntKind.wrap .i64 d.2 = d.2 := by
  have f0 := field_at Tryz.underlying62 h 0 3 0 1 rfl (by kernel_rfl)
  have f1 := field_at Tryz.underlying62 h 1 3 1 1 rfl (by kernel_rfl)
  match el, hl with
  | [a, b], _ =>
    obtain ⟨n0, h0, w0, w0'⟩ := cell_int Tryz.underlying3 f0
    obtain ⟨n1, h1, w1, w1'⟩ := cell_int Tryz.underlying3 f1
    exact ⟨(n0, n1), by rw [h0, h1]; rfl, Go.Ev.wrap_i (by omega) (by omega), Go.Ev.wrap_i (by omega) (by omega)⟩
set_option maxRecDepth 100000 in
theorem acts_open {H : Type} {enc : TypeId × Value → H} {W : World} {base : Nat} {r : Reach} {b0 : Nat} {sp : Nat → Bool} {held : Bool} {v : Value} {d : DataW H} {ps : List MemPlace}
    (hval : Value.okWide Tryz.prog W r b0 54 v) (hd : DataW.Trod enc Tryz.prog W base sp held 54 v d ps) : ∃ ds, Acts W v ds ∧ ∀ d ∈ ds, IntKind.wrap .i64 d.1 = d.1 ∧ IntKind.wrap .i64 d.2 = d.2 := by
  obtain ⟨els, hS, hF⟩ := structs_openG (sz := 2) Tryz.underlying54 (by kernel_rfl) (by decide) hval hd
  have hl : ∀ el ∈ els, el.length = 2 := by
    obtain ⟨_, _, _, _, _, _, h, _⟩ := hS
    exact h
  have hall : ∀ {l : List (List Value)}, (∀ el ∈ l, ∃ d : Int × Int, el = actC d ∧ IntKind.wrap .i64 d.1 = d.1 ∧ IntKind.wrap .i64 d.2 = d.2) → ∃ ds : List (Int × Int), l = ds.map actC ∧ ∀ d ∈ ds, IntKind.wrap .i64 d.1 = d.1 ∧ IntKind.wrap .i64 d.2 = d.2 := by
    intro l
    induction l with
    | nil => exact fun _ => ⟨[], rfl, fun d h => (nomatch h)⟩
    | cons a l ih =>
      intro h
      obtain ⟨d, e, w⟩ := h a (.head _)
      obtain ⟨ds, e2, w2⟩ := ih (fun el he => h el (.tail _ he))
      refine ⟨d :: ds, by rw [e, e2]; rfl, fun x hx => ?_⟩
      rcases List.mem_cons.1 hx with rfl | hx
      · exact w
      · exact w2 x hx
  obtain ⟨ds, rfl, hw⟩ := hall (fun el he => actC_open (hl el he) (hF el he))
  exact ⟨ds, hS, hw⟩
end Go.Proofs.YtkfeofhifmebkaaGreatDoor
