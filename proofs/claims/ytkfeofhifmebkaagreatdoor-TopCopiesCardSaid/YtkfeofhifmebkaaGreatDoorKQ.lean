/- The tops: a verified evaluator of the program (KQ). -/
import Derived.Test.YtkfeofhifmebkaaGreatDoorKP3
import Derived.Test.YtkfeofhifmebkaaGreatDoorKT0
import Derived.Test.YtkfeofhifmebkaaGreatDoorKT1
import Derived.Test.YtkfeofhifmebkaaGreatDoorKT2
import Derived.Test.YtkfeofhifmebkaaGreatDoorKT3
import Derived.Test.YtkfeofhifmebkaaGreatDoorKT4
set_option maxRecDepth 100000
namespace Go.Ev
open Go Go.Proofs
/-! from a run to the machine's states -/
theorem Sim.env {P : Program} {E E' : Env} {ν : Nat → Int} {base : Nat} {σ : Sg} {st : St} {w : World} (hg : E'.glob = E.glob) (h : Sim P E ν base σ st w) : Sim P E' ν base σ st w :=
  ⟨h.fresh, h.blk, h.inj, fun g cs e => h.glob g cs (by rw [← hg]; exact e), h.size⟩
/-- pieces of code, one behind the other -/
def Chain (E : Env) (ν : Nat → Int) (base nt : Nat) : List Code → A → St → A → St → Prop
  | [], a, st, a', st' => a = a' ∧ st = st'
  | c :: l, a, st, a', st' => ∃ a1 st1, Lands Tryz.prog E ν base nt c Option.none a st .normal a1 st1 ∧ Chain E ν base nt l a1 st1 a' st'
theorem runCs_chain {E : Env} {ν : Nat → Int} {base : Nat} {sf : Self} (hS : SelfOk Tryz.prog E ν base sf) {fn : FuncId} {F0 : Func} (hF0 : Tryz.prog.funcs[fn]? = some F0) : ∀ {cs : List Code} {a : A} {st : St} {k : A → St → R} {out}, runCs sf fn cs a st k = .ok out →
    ∃ a' st', k a' st' = .ok out ∧ Chain E ν base F0.ntmps cs a st a' st' := by
  intro cs
  induction cs with
  | nil => intro a st k out h; exact ⟨a, st, h, rfl, rfl⟩
  | cons c cs ih =>
    intro a st k out h
    simp only [runCs] at h
    have h0 := hS.code h; clear h; obtain ⟨e, a1, st1, h, F1, hF1, h1⟩ := h0
    rw [hF0] at hF1; cases hF1
    cases e <;> dsimp only at h <;> try (cases h; done)
    obtain ⟨a', st', h2, h3⟩ := ih h
    exact ⟨a', st', h2, a1, st1, h1, h3⟩
noncomputable def E0 : Env := envF []
/-- the machine stands at such a state -/
def AtS (ν : Nat → Int) (base : Nat) (w0 : World) (aL : A) (sL : St) (act : Act) (w : World) : Prop :=
  ∃ σ, Sim Tryz.prog E0 ν base σ sL w ∧ RepA ν σ 268 aL act ∧ BaseKept base w0 w
theorem AtS.lands {E : Env} (hg : E.glob = glob0f) {ν : Nat → Int} {base : Nat} {w0 : World} {c : Code} {a a1 : A} {st st1 : St} {e : Ex} (h : Lands Tryz.prog E ν base 268 c Option.none a st e a1 st1) {act : Act} {w : World} (k : AtS ν base w0 a st act w) {n : Nat} {Q : Exit → Act → World → Prop}
    (hQ : ∀ act' w', AtS ν base w0 a1 st1 act' w' → Q e.out act' w') : c.wpIn Fence.wide n Tryz.prog Q act w := by
  obtain ⟨σ, h1, h2, h3⟩ := k
  have h1' : Sim Tryz.prog E ν base σ st w := h1.env hg
  exact h σ w act Fence.wide n Q h1' h2 rfl (fun σ' w' act' go r => hQ act' w' ⟨σ', go.2.env hg.symm, r, h3.trans (go.kept h1')⟩)
theorem mkR_spec : ∀ (l : List (Nat × Nat)) (t : T Nat) (k : T Nat → R), ∃ t', mkR l t k = k t' := by
  intro l
  induction l with
  | nil => intro t k; exact ⟨t, rfl⟩
  | cons p l ih =>
    intro t k
    obtain ⟨a, b⟩ := p
    simp only [mkR]
    obtain ⟨t', h1, _⟩ := setTK_spec t a (some b) (fun t => mkR l t k)
    rw [h1]
    exact ih t' k
theorem cellsSz : ∀ t, sz6 t ≠ 0 → Tryz.prog.cellsOf t = sz6 t := by
  intro t h
  by_cases g : t = 34
  · subst g; exact cells34
  · exact absurd (by unfold sz6; split <;> first | (rename_i q; exact absurd rfl g) | rfl) h
theorem finR_at {ν ν' : Nat → Int} {ren : List (Nat × Nat)} {ints : List (SInt × SInt)} {kb kp : Bool} {logs : List (Nat × Nat × Nat)} {aL a : A} {sL st : St} {out} (h : finR ren ints kb kp logs aL sL a st = .ok out)
    (hi : ∀ p ∈ ints, p.1.val ν = p.2.val ν') (hk : ∀ i, keepF kb kp i = true → ν i = ν' i) (hl : ∀ p ∈ logs, ν' p.2.2 = ν p.1 + p.2.1) (hz0 : ν 0 = 0) {base : Nat} {w0 : World} {act : Act} {w : World} (k : AtS ν base w0 a st act w) : AtS ν' base w0 aL sL act w := by
  unfold finR at h
  obtain ⟨r, h1⟩ := mkR_spec ren .leaf (fun r => mkR (swapL ren) .leaf fun i => finM ⟨r, i, ints, keepF kb kp, logs⟩ sz6 aL sL a st)
  rw [h1] at h
  obtain ⟨i, h2⟩ := mkR_spec (swapL ren) .leaf (fun i => finM ⟨r, i, ints, keepF kb kp, logs⟩ sz6 aL sL a st)
  rw [h2] at h
  obtain ⟨σ, k1, k2, k3⟩ := k
  obtain ⟨f1, f2⟩ := finM_ok (P := Tryz.prog) (E := E0) (E' := E0) (base := base) cellsSz (m := ⟨r, i, ints, keepF kb kp, logs⟩) ⟨hi, hk⟩ hl hz0 rfl (fun g cs e => glob0_free g cs e) h
  exact ⟨_, f1 σ w k1, f2 σ 268 act k2, k3⟩
end Go.Ev
set_option maxRecDepth 100000
namespace Go.Ev
open Go Go.Proofs
/-! what the atoms stand for -/
structure Vv where
  raw : Int
  a : Nat
  len : Nat
  i : Nat
  lg : Nat
  pg : Nat → Nat
  m : Nat → Nat
  pg' : Nat → Nat
  m' : Nat → Nat
  tr : Int
  p54 : Int
  p55 : Int
  w60 : Int
  w61 : Int
  d0 : Int
  d1 : Int
  d2 : Int
  d3 : Int
  s51 : Nat
  t56 : Nat
  s80 : Int
  s81 : Int
  s82 : Int
  s83 : Int
def Vv.lo (v : Vv) (n : Nat) : Int := match n with
  | 1 => v.raw
  | 2 => IntKind.wrap .u64 v.raw
  | 3 => v.i
  | 4 => v.i + 1
  | 5 => (v.i : Int).tdiv 2
  | 9 => v.a
  | 10 => v.pg 0
  | 11 => v.pg 1
  | 12 => v.pg 2
  | 13 => v.pg 3
  | 19 => v.a + 8
  | 35 => v.len
  | 36 => v.d0
  | 37 => v.d1
  | 38 => v.d2
  | 39 => v.d3
  | 46 => IntKind.wrap .u64 v.d0
  | 47 => IntKind.wrap .u64 v.d1
  | 48 => IntKind.wrap .u64 v.d2
  | 50 => IntKind.wrap .u8 v.d3
  | 51 => v.s51
  | 52 => v.tr
  | 53 => IntKind.wrap .i64 (v.tr + 1)
  | 54 => v.p54
  | 55 => v.p55
  | 56 => v.t56
  | 57 => (IntKind.wrap .u64 v.d1).tmod 4
  | 58 => (IntKind.wrap .u64 v.d2).tmod 64
  | 59 => (IntKind.wrap .u64 v.d1).tmod 4
  | 60 => v.w60
  | 61 => v.w61
  | 62 => (IntKind.wrap .u64 v.d2).tmod 64
  | 63 => ((v.i : Int).tdiv 2).tmod 4
  | 80 => v.s80
  | 81 => v.s81
  | 82 => v.s82
  | 83 => v.s83
  | _ => 0
def Vv.nu (v : Vv) (n : Nat) : Int :=
  if n < 100 then v.lo n
  else if n < 200 then v.m (n - 100)
  else if n < 210 then v.pg' (n - 200)
  else if n < 300 then v.m' (n - 210)
  else if n < 316 then memB v.m (v.a + (n - 300))
  else if n < 400 then 0
  else if n < 416 then wordN (memB v.m) (v.a + (n - 400)) (8 - (n - 400) % 8)
  else if n < 420 then 0
  else if n < 436 then 256 * wordN (memB v.m) (v.a + (n - 420)) (8 - (n - 420) % 8)
  else if n < 440 then 0
  else if n < 456 then memB v.m (v.a + (n - 440)) * 2 ^ (8 * ((n - 440) % 8))
  else if n < 460 then 0
  else if n < 476 then wordN (memB v.m) (v.a + ((n - 460) - (n - 460) % 8)) ((n - 460) % 8 + 1)
  else if n < 5000 then 0
  else v.lg + (n - 5000)
structure Vv.Good (v : Vv) : Prop where
  a70 : v.a < 70
  rem : (IntKind.wrap .u64 v.raw).tmod 70 = v.a
  m : ∀ j, v.m j < 256
  i : v.i < 1000
  lg : 1 ≤ v.lg ∧ v.lg ≤ 3000
theorem wrap64 (x : Int) : 0 ≤ IntKind.wrap .u64 x := by
  simp [IntKind.wrap, IntKind.signed, IntKind.bits]
  omega
theorem tmod_small {x : Int} (h : 0 ≤ x) (n : Int) (hn : 0 < n) : 0 ≤ x.tmod n ∧ x.tmod n < n := by
  rw [Int.tmod_eq_emod_of_nonneg h]
  exact ⟨Int.emod_nonneg _ (by omega), Int.emod_lt_of_pos _ hn⟩
theorem Vv.lo_eq (v : Vv) {n : Nat} (h : n < 100) : v.nu n = v.lo n := by
  unfold Vv.nu; rw [if_pos h]
theorem Vv.ok {v : Vv} (hv : v.Good) {c : Cs} (ha : c.a = v.a) (hps : ∀ p s, p < 4 → getO c.ps p = some s → v.pg p = s) (hon : ∀ b, c.on = some b → b = decide (v.p54 = v.s51)) (hhi : v.s51 ≤ c.hi ∧ c.hi ≤ 63)
    (hr : ∀ x, c.r = some x → v.i % 2 = x) (h60 : ∀ b, c.lt60 = some b → b = decide (v.i < 60)) (h40 : ∀ b, c.lt40 = some b → b = decide (v.i < 40)) (hd : ∀ b, c.ltd = some b → b = decide (v.i < v.len)) (h48 : ∀ b, c.g48 = some b → b = decide (48 < v.a))
    (hk : ∀ x, c.kd = some x → (IntKind.wrap .u64 v.d0).tmod 7 = x) : NuOk c v.m v.nu := by
  have e9 : v.nu 9 = v.a := v.lo_eq (by omega)
  have e3 : v.nu 3 = v.i := v.lo_eq (by omega)
  have e51 : v.nu 51 = v.s51 := v.lo_eq (by omega)
  have e54 : v.nu 54 = v.p54 := v.lo_eq (by omega)
  have e35 : v.nu 35 = v.len := v.lo_eq (by omega)
  have e46 : v.nu 46 = IntKind.wrap .u64 v.d0 := v.lo_eq (by omega)
  have eb : ∀ j, j < 64 → v.nu (100 + j) = v.m j := fun j hj => by
    unfold Vv.nu; rw [if_neg (by omega), if_pos (by omega), show 100 + j - 100 = j by omega]
  have hmB : ∀ j, memB v.m j < 256 := fun j => by
    unfold memB; split
    · exact hv.m _
    · omega
  refine
    { a70 := by rw [ha]; exact hv.a70
      nine := by rw [e9, ha]
      byte := fun j hj => ⟨eb j hj, hv.m j⟩
      addr8 := ?_
      rem70 := ?_
      raw2 := ?_
      ps := ?_
      on := ?_
      hi := ?_
      row := ?_
      part := ?_
      part2 := ?_
      shl := ?_
      low := ?_
      i60 := ?_
      i1 := ?_
      i2 := ?_
      r := ?_
      q := ?_
      lt60 := ?_
      lt40 := ?_
      ltd := ?_
      g48 := ?_
      kd := ?_
      pg := ?_
      ad := ?_
      c59 := ?_
      c62 := ?_
      k46 := ?_
      k47 := ?_
      k48 := ?_
      k50 := ?_
      tries := ?_
      log := ?_
      log1 := ?_
      log2 := ?_ }
  · rw [ha]; exact v.lo_eq (by omega)
  · rw [e9]; rw [show v.nu 2 = IntKind.wrap .u64 v.raw from v.lo_eq (by omega)]; exact hv.rem
  · rw [show v.nu 2 = IntKind.wrap .u64 v.raw from v.lo_eq (by omega), show v.nu 1 = v.raw from v.lo_eq (by omega)]
  · intro p s hp e
    have := hps p s hp e
    rw [v.lo_eq (by omega), ← this]
    match p, hp with
    | 0, _ => rfl
    | 1, _ => rfl
    | 2, _ => rfl
    | 3, _ => rfl
  · intro b e; rw [hon b e, e54, e51]
  · rw [e51]; exact ⟨by omega, by have := hhi.1; omega, hhi.2⟩
  · intro j hj
    refine ⟨?_, hmB _⟩
    unfold Vv.nu
    rw [if_neg (by omega), if_neg (by omega), if_neg (by omega), if_neg (by omega), if_pos (by omega), show 300 + j - 300 = j by omega, ha]
  · intro x hx
    unfold Vv.nu
    rw [if_neg (by omega), if_neg (by omega), if_neg (by omega), if_neg (by omega), if_neg (by omega), if_neg (by omega), if_pos (by omega), show 400 + x - 400 = x by omega, ha]
  · intro x hx
    unfold Vv.nu
    rw [if_neg (by omega), if_neg (by omega), if_neg (by omega), if_neg (by omega), if_neg (by omega), if_neg (by omega), if_neg (by omega), if_neg (by omega), if_pos (by omega), show 420 + x - 420 = x by omega, ha]
  · intro x hx
    unfold Vv.nu
    rw [if_neg (by omega), if_neg (by omega), if_neg (by omega), if_neg (by omega), if_neg (by omega), if_neg (by omega), if_neg (by omega), if_neg (by omega), if_neg (by omega), if_neg (by omega), if_pos (by omega), show 440 + x - 440 = x by omega, ha]
  · intro x hx _ _
    unfold Vv.nu
    rw [if_neg (by omega), if_neg (by omega), if_neg (by omega), if_neg (by omega), if_neg (by omega), if_neg (by omega), if_neg (by omega), if_neg (by omega), if_neg (by omega), if_neg (by omega), if_neg (by omega), if_neg (by omega), if_pos (by omega), show 460 + x - 460 = x by omega, ha]
  · rw [e3]; have := hv.i; omega
  · rw [e3]; exact v.lo_eq (by omega)
  · rw [e3]; exact v.lo_eq (by omega)
  · intro x e
    rw [e3, ← hr x e, Int.tmod_eq_emod_of_nonneg (by omega)]
    omega
  · rw [show v.nu 5 = (v.i : Int).tdiv 2 from v.lo_eq (by omega)]; exact (v.lo_eq (n := 63) (by omega)).symm
  · intro b e; rw [h60 b e, e3]; congr 1; exact propext ⟨fun h => by omega, fun h => by omega⟩
  · intro b e; rw [h40 b e, e3]; congr 1; exact propext ⟨fun h => by omega, fun h => by omega⟩
  · intro b e; rw [hd b e, e3, e35]; congr 1; exact propext ⟨fun h => by omega, fun h => by omega⟩
  · intro b e; rw [h48 b e, e9]; congr 1; exact propext ⟨fun h => by omega, fun h => by omega⟩
  · intro x e; rw [e46]; exact hk x e
  · rw [show v.nu 47 = IntKind.wrap .u64 v.d1 from v.lo_eq (by omega)]; exact (v.lo_eq (n := 57) (by omega)).symm
  · rw [show v.nu 48 = IntKind.wrap .u64 v.d2 from v.lo_eq (by omega)]; exact (v.lo_eq (n := 58) (by omega)).symm
  · have := tmod_small (wrap64 v.d1) 4 (by omega)
    rw [show v.nu 57 = (IntKind.wrap .u64 v.d1).tmod 4 from v.lo_eq (by omega)]
    exact ⟨v.lo_eq (n := 59) (by omega), this⟩
  · have := tmod_small (wrap64 v.d2) 64 (by omega)
    rw [show v.nu 58 = (IntKind.wrap .u64 v.d2).tmod 64 from v.lo_eq (by omega)]
    exact ⟨v.lo_eq (n := 62) (by omega), this⟩
  · rw [e46, show v.nu 36 = v.d0 from v.lo_eq (by omega)]
  · rw [show v.nu 47 = IntKind.wrap .u64 v.d1 from v.lo_eq (by omega), show v.nu 37 = v.d1 from v.lo_eq (by omega)]
  · rw [show v.nu 48 = IntKind.wrap .u64 v.d2 from v.lo_eq (by omega), show v.nu 38 = v.d2 from v.lo_eq (by omega)]
  · rw [show v.nu 50 = IntKind.wrap .u8 v.d3 from v.lo_eq (by omega), show v.nu 39 = v.d3 from v.lo_eq (by omega)]
  · rw [show v.nu 53 = IntKind.wrap .i64 (v.tr + 1) from v.lo_eq (by omega), show v.nu 52 = v.tr from v.lo_eq (by omega)]
  · intro j hj
    have e : ∀ j, v.nu (5000 + j) = v.lg + j := fun j => by
      unfold Vv.nu
      rw [if_neg (by omega), if_neg (by omega), if_neg (by omega), if_neg (by omega), if_neg (by omega), if_neg (by omega), if_neg (by omega), if_neg (by omega), if_neg (by omega), if_neg (by omega), if_neg (by omega), if_neg (by omega), if_neg (by omega), if_neg (by omega)]
      omega
    rw [e j, show v.nu 5000 = v.lg + (0 : Nat) from e 0]
    omega
  · unfold Vv.nu; simp; have := hv.lg; omega
  · unfold Vv.nu; simp; have := hv.lg; omega
end Go.Ev
set_option maxRecDepth 100000
namespace Go.Ev
open Go Go.Proofs
noncomputable section
def stepTab : List Stp := [stp0, stp1, stp2, stp3, stp4, stp5, stp6, stp7, stp8, stp9, stp10, stp11, stp12, stp13, stp14, stp15, stp16, stp17, stp18, stp19, stp20, stp21, stp22, stp23, stp24, stp25, stp26, stp27, stp28, stp29, stp30, stp31, stp32, stp33, stp34, stp35, stp36, stp37, stp38, stp39, stp40, stp41, stp42, stp43, stp44, stp45, stp46, stp47, stp48, stp49, stp50, stp51, stp52, stp53, stp54, stp55, stp56, stp57, stp58, stp59, stp60, stp61, stp62, stp63, stp64, stp65, stp66, stp67, stp68, stp69, stp70, stp71, stp72, stp73, stp74, stp75, stp76, stp77, stp78, stp79, stp80, stp81, stp82, stp83, stp84, stp85, stp86, stp87, stp88, stp89, stp90, stp91, stp92, stp93, stp94, stp95, stp96, stp97, stp98, stp99, stp100, stp101, stp102, stp103, stp104, stp105, stp106, stp107, stp108, stp109, stp110, stp111, stp112, stp113, stp114, stp115, stp116, stp117, stp118, stp119, stp120, stp121, stp122, stp123, stp124, stp125, stp126, stp127, stp128, stp129, stp130, stp131, stp132, stp133, stp134, stp135, stp136]
end
def allOk : List Stp → Prop
  | [] => True
  | e :: l => e.okE = true ∧ allOk l
theorem allOk_mem : ∀ {l : List Stp}, allOk l → ∀ e ∈ l, e.okE = true := by
  intro l
  induction l with
  | nil => intro _ e h; cases h
  | cons x l ih =>
    intro h e he
    rcases List.mem_cons.1 he with rfl | g
    · exact h.1
    · exact ih h.2 e g
theorem stepTab_ok : ∀ e ∈ stepTab, e.okE = true := allOk_mem (l := stepTab) ⟨stp0_ok, stp1_ok, stp2_ok, stp3_ok, stp4_ok, stp5_ok, stp6_ok, stp7_ok, stp8_ok, stp9_ok, stp10_ok, stp11_ok, stp12_ok, stp13_ok, stp14_ok, stp15_ok, stp16_ok, stp17_ok, stp18_ok, stp19_ok, stp20_ok, stp21_ok, stp22_ok, stp23_ok, stp24_ok, stp25_ok, stp26_ok, stp27_ok, stp28_ok, stp29_ok, stp30_ok, stp31_ok, stp32_ok, stp33_ok, stp34_ok, stp35_ok, stp36_ok, stp37_ok, stp38_ok, stp39_ok, stp40_ok, stp41_ok, stp42_ok, stp43_ok, stp44_ok, stp45_ok, stp46_ok, stp47_ok, stp48_ok, stp49_ok, stp50_ok, stp51_ok, stp52_ok, stp53_ok, stp54_ok, stp55_ok, stp56_ok, stp57_ok, stp58_ok, stp59_ok, stp60_ok, stp61_ok, stp62_ok, stp63_ok, stp64_ok, stp65_ok, stp66_ok, stp67_ok, stp68_ok, stp69_ok, stp70_ok, stp71_ok, stp72_ok, stp73_ok, stp74_ok, stp75_ok, stp76_ok, stp77_ok, stp78_ok, stp79_ok, stp80_ok, stp81_ok, stp82_ok, stp83_ok, stp84_ok, stp85_ok, stp86_ok, stp87_ok, stp88_ok, stp89_ok, stp90_ok, stp91_ok, stp92_ok, stp93_ok, stp94_ok, stp95_ok, stp96_ok, stp97_ok, stp98_ok, stp99_ok, stp100_ok, stp101_ok, stp102_ok, stp103_ok, stp104_ok, stp105_ok, stp106_ok, stp107_ok, stp108_ok, stp109_ok, stp110_ok, stp111_ok, stp112_ok, stp113_ok, stp114_ok, stp115_ok, stp116_ok, stp117_ok, stp118_ok, stp119_ok, stp120_ok, stp121_ok, stp122_ok, stp123_ok, stp124_ok, stp125_ok, stp126_ok, stp127_ok, stp128_ok, stp129_ok, stp130_ok, stp131_ok, stp132_ok, stp133_ok, stp134_ok, stp135_ok, stp136_ok, trivial⟩
end Go.Ev
set_option maxRecDepth 100000
namespace Go.Ev
open Go Go.Proofs
/-! what a step of the table makes -/
def look : List (SInt × SInt) → Nat → Option SInt
  | [], _ => none
  | p :: l, j => match p with
    | (x, y) => match y with
      | .atom i => match Nat.beq i j with
        | true => some x
        | false => look l j
      | .lit _ => look l j
def isAt (x : SInt) (n : Nat) : Bool := match x with
  | .atom i => Nat.beq i n
  | .lit _ => false
theorem isAt_ok {x : SInt} {n : Nat} (h : isAt x n = true) : x = .atom n := by
  unfold isAt at h
  split at h
  · rw [Nat.eq_of_beq_eq_true h]
  · cases h
/-- which atoms are told by the table -/
def told (j : Nat) : Bool := match j with
  | 52 => true
  | 54 => true
  | 55 => true
  | 60 => true
  | 61 => true
  | _ => false
def chkP (e : Stp) (p : SInt × SInt) : Bool := match p with
  | (x, y) => match y with
    | .lit _ => false
    | .atom j => match told j with
      | true => match look e.ints j with
        | some z => beqSI x z
        | none => false
      | false => match Nat.beq j 3 with
        | true => isAt x 4
        | false => match Nat.beq j 5000 with
          | true => isAt x (5000 + e.lj)
          | false => match Nat.ble 10 j with
            | false => false
            | true => match Nat.blt j 14 with
              | true => match e.kp with
                | true => false
                | false => isAt x (190 + j)
              | false => match Nat.ble 100 j with
                | false => false
                | true => match Nat.blt j 164 with
                  | false => false
                  | true => match e.kb with
                    | true => false
                    | false => isAt x (110 + j)
def chkL (e : Stp) : List (SInt × SInt) → Bool
  | [] => true
  | p :: l => match chkP e p with
    | true => chkL e l
    | false => false
theorem chkL_ok {e : Stp} : ∀ {l : List (SInt × SInt)}, chkL e l = true → ∀ p ∈ l, chkP e p = true := by
  intro l
  induction l with
  | nil => intro _ p h; cases h
  | cons x l ih =>
    intro h p hp
    simp only [chkL] at h
    split at h
    · rename_i g
      rcases List.mem_cons.1 hp with rfl | q
      · exact g
      · exact ih h p q
    · cases h
def chkS (e : Stp) : Bool := match chkL e e.ints with
  | true => match Nat.ble e.lj 40 with
    | true => match Nat.ble e.hi 63 with
      | true => true
      | false => false
    | false => false
  | false => false
def allB {α : Type} (f : α → Bool) : List α → Bool
  | [] => true
  | a :: l => match f a with
    | true => allB f l
    | false => false
theorem allB_ok {α : Type} {f : α → Bool} : ∀ {l : List α}, allB f l = true → ∀ a ∈ l, f a = true := by
  intro l
  induction l with
  | nil => intro _ a h; cases h
  | cons x l ih =>
    intro h a ha
    simp only [allB] at h
    split at h
    · rename_i g
      rcases List.mem_cons.1 ha with rfl | q
      · exact g
      · exact ih h a q
    · cases h
theorem stepTab_chk : allB chkS stepTab = true := by kernel_rfl
def lkV (e : Stp) (v : Vv) (j : Nat) (d : Int) : Int := match look e.ints j with
  | some x => x.val v.nu
  | none => d
/-- what stands behind a step -/
structure NextOk (e : Stp) (v v' : Vv) : Prop where
  raw : v'.raw = v.raw
  a : v'.a = v.a
  len : v'.len = v.len
  i : v'.i = v.i + 1
  lg : v'.lg = v.lg + e.lj
  pg : ∀ q, q < 4 → ((v'.pg q : Nat) : Int) = if e.kp then (v.pg q : Int) else v.pg' q
  m : ∀ j, j < 64 → ((v'.m j : Nat) : Int) = if e.kb then (v.m j : Int) else v.m' j
  tr : v'.tr = lkV e v 52 0
  p54 : v'.p54 = lkV e v 54 (-1)
  p55 : v'.p55 = lkV e v 55 0
  w60 : v'.w60 = lkV e v 60 0
  w61 : v'.w61 = lkV e v 61 0
  s80 : v'.s80 = v.s80
  s81 : v'.s81 = v.s81
  s82 : v'.s82 = v.s82
  s83 : v'.s83 = v.s83
theorem Vv.nuM (v : Vv) {j : Nat} (h : j < 64) : v.nu (100 + j) = v.m j := by
  unfold Vv.nu; rw [if_neg (by omega), if_pos (by omega), show 100 + j - 100 = j by omega]
theorem Vv.nuP' (v : Vv) {j : Nat} (h : j < 4) : v.nu (200 + j) = v.pg' j := by
  unfold Vv.nu; rw [if_neg (by omega), if_neg (by omega), if_pos (by omega), show 200 + j - 200 = j by omega]
theorem Vv.nuM' (v : Vv) {j : Nat} (h : j < 64) : v.nu (210 + j) = v.m' j := by
  unfold Vv.nu; rw [if_neg (by omega), if_neg (by omega), if_neg (by omega), if_pos (by omega), show 210 + j - 210 = j by omega]
theorem Vv.nuL (v : Vv) (j : Nat) : v.nu (5000 + j) = v.lg + j := by
  unfold Vv.nu
  rw [if_neg (by omega), if_neg (by omega), if_neg (by omega), if_neg (by omega), if_neg (by omega), if_neg (by omega), if_neg (by omega), if_neg (by omega), if_neg (by omega), if_neg (by omega), if_neg (by omega), if_neg (by omega), if_neg (by omega), if_neg (by omega)]
  omega
theorem Vv.nuP (v : Vv) {j : Nat} (h : j < 4) : v.nu (10 + j) = v.pg j := by
  rw [v.lo_eq (by omega)]
  match j, h with
  | 0, _ => rfl
  | 1, _ => rfl
  | 2, _ => rfl
  | 3, _ => rfl
theorem told_ok {j : Nat} (h : told j = true) : j = 52 ∨ j = 54 ∨ j = 55 ∨ j = 60 ∨ j = 61 := by
  unfold told at h
  split at h <;> first | omega | cases h
theorem NextOk.ints {e : Stp} (he : e ∈ stepTab) {v v' : Vv} (h : NextOk e v v') : ∀ p ∈ e.ints, p.1.val v.nu = p.2.val v'.nu := by
  intro p hp
  have h1 := allB_ok stepTab_chk e he
  unfold chkS at h1
  split at h1
  case h_2 => cases h1
  rename_i g
  have h2 := chkL_ok g p hp
  obtain ⟨x, y⟩ := p
  unfold chkP at h2
  dsimp only at h2
  split at h2
  case h_1 => cases h2
  rename_i j
  dsimp only
  split at h2
  · rename_i ht
    split at h2
    case h_2 => cases h2
    rename_i z hz
    have hx := beqSI_ok h2
    subst hx
    have lk : ∀ d, lkV e v j d = x.val v.nu := fun d => by unfold lkV; rw [hz]
    show _ = v'.nu j
    rcases told_ok ht with rfl | rfl | rfl | rfl | rfl
    · rw [v'.lo_eq (by omega)]; exact (h.tr.trans (lk _)).symm
    · rw [v'.lo_eq (by omega)]; exact (h.p54.trans (lk _)).symm
    · rw [v'.lo_eq (by omega)]; exact (h.p55.trans (lk _)).symm
    · rw [v'.lo_eq (by omega)]; exact (h.w60.trans (lk _)).symm
    · rw [v'.lo_eq (by omega)]; exact (h.w61.trans (lk _)).symm
  · split at h2
    · rename_i g3
      have := Nat.eq_of_beq_eq_true g3
      subst this
      rw [isAt_ok h2]
      show v.nu 4 = v'.nu 3
      rw [v.lo_eq (by omega), v'.lo_eq (by omega)]
      show (v.i : Int) + 1 = v'.i
      rw [h.i]; push_cast; rfl
    · split at h2
      · rename_i g3
        have := Nat.eq_of_beq_eq_true g3
        subst this
        rw [isAt_ok h2]
        show v.nu (5000 + e.lj) = v'.nu (5000 + 0)
        rw [v.nuL, v'.nuL, h.lg]; push_cast; omega
      · split at h2
        case h_1 => cases h2
        rename_i g3
        have g3 := Nat.le_of_ble_eq_true g3
        split at h2
        · rename_i g4
          have g4 : j < 14 := Nat.le_of_ble_eq_true g4
          split at h2
          case h_1 => cases h2
          rename_i g5
          rw [isAt_ok h2]
          show v.nu (190 + j) = v'.nu j
          have := h.pg (j - 10) (by omega)
          rw [g5] at this
          rw [show 190 + j = 200 + (j - 10) by omega, v.nuP' (by omega), show j = 10 + (j - 10) by omega, v'.nuP (by omega), this]
          simp
        · split at h2
          case h_1 => cases h2
          rename_i g4
          have g4 := Nat.le_of_ble_eq_true g4
          split at h2
          case h_1 => cases h2
          rename_i g5
          have g5 : j < 164 := Nat.le_of_ble_eq_true g5
          split at h2
          case h_1 => cases h2
          rename_i g6
          rw [isAt_ok h2]
          show v.nu (110 + j) = v'.nu j
          have := h.m (j - 100) (by omega)
          rw [g6] at this
          rw [show 110 + j = 210 + (j - 100) by omega, v.nuM' (by omega), show j = 100 + (j - 100) by omega, v'.nuM (by omega), this]
          simp
theorem NextOk.keep {e : Stp} {v v' : Vv} (h : NextOk e v v') : ∀ i, keepF e.kb e.kp i = true → v.nu i = v'.nu i := by
  intro i hi
  unfold keepF at hi
  split at hi
  · rename_i g
    have := Nat.eq_of_beq_eq_true g
    subst this
    rw [v.lo_eq (by omega), v'.lo_eq (by omega)]
    show (v.a : Int) = v'.a
    rw [h.a]
  · split at hi
    · rename_i g
      split at g
      · rename_i g1
        have g1 := Nat.le_of_ble_eq_true g1
        have g := Nat.le_of_ble_eq_true g
        have : i = 80 ∨ i = 81 ∨ i = 82 ∨ i = 83 := by omega
        rcases this with rfl | rfl | rfl | rfl
        · rw [v.lo_eq (by omega), v'.lo_eq (by omega)]; exact h.s80.symm
        · rw [v.lo_eq (by omega), v'.lo_eq (by omega)]; exact h.s81.symm
        · rw [v.lo_eq (by omega), v'.lo_eq (by omega)]; exact h.s82.symm
        · rw [v.lo_eq (by omega), v'.lo_eq (by omega)]; exact h.s83.symm
      · have := Nat.eq_of_beq_eq_true g
        subst this
        rw [v.lo_eq (by omega), v'.lo_eq (by omega)]
        show (v.len : Int) = v'.len
        rw [h.len]
    · split at hi
      · rename_i g
        unfold isByte at g
        split at g
        · rename_i g1
          have g1 := Nat.le_of_ble_eq_true g1
          have g2 : i < 164 := Nat.le_of_ble_eq_true g
          have := h.m (i - 100) (by omega)
          rw [hi] at this
          rw [show i = 100 + (i - 100) by omega, v.nuM (by omega), v'.nuM (by omega), this]
          simp
        · cases g
      · split at hi
        · rename_i g1
          have g1 := Nat.le_of_ble_eq_true g1
          split at hi
          · rename_i g2
            have g2 := Nat.le_of_ble_eq_true g2
            have := h.pg (i - 10) (by omega)
            rw [hi] at this
            rw [show i = 10 + (i - 10) by omega, v.nuP (by omega), v'.nuP (by omega), this]
            simp
          · cases hi
        · cases hi
theorem cSym_a (a b : Nat) (ps : List (Option Nat)) (l d f : Option Bool) (kd r : Option Nat) (on : Option Bool) (hi : Nat) (g : Option Bool) : cSym ⟨false, a, ps, l, d, f, kd, r, on, hi, g⟩ = cSym ⟨false, b, ps, l, d, f, kd, r, on, hi, g⟩ := by
  funext op k x j y
  unfold cSym cSym0 symAL symAA symShl byteOf at9
  rfl
/-- a run's word at whatever address -/
theorem sfC_ok {ps : List (Option Nat)} {l d f : Option Bool} {kd r : Option Nat} {on : Option Bool} {hi : Nat} {g : Option Bool} {a : Nat} {m : Nat → Nat} {ν : Nat → Int} (h : NuOk ⟨false, a, ps, l, d, f, kd, r, on, hi, g⟩ m ν) {kind tk oc : Nat} (ht : tk ≤ 3 → TouchOk a ν tk) (hpg : kind = 2 ∨ kind = 3 ∨ kind = 4 → PageOk kind oc ν) (hpk : kind = 5 → PokeOk ν) {base : Nat} :
    SelfOk Tryz.prog (envC ⟨false, 0, ps, l, d, f, kd, r, on, hi, g⟩ kind tk oc) ν base (sfC ⟨false, 0, ps, l, d, f, kd, r, on, hi, g⟩ kind tk oc) := by
  have e : envC ⟨false, 0, ps, l, d, f, kd, r, on, hi, g⟩ kind tk oc = envC ⟨false, a, ps, l, d, f, kd, r, on, hi, g⟩ kind tk oc := by
    unfold envC
    rw [cSym_a 0 a]
    rfl
  unfold sfC
  rw [e]
  exact selfN_ok (eokC h) (intrC_ok h ht hpg hpk) _
/-- the law of a step: what the rest of the loop's body makes -/
theorem step_law {e : Stp} (he : e ∈ stepTab) {v v' : Vv} (hv : v.Good) (hn : NextOk e v v') (hon : ∀ b, e.on = some b → b = decide (v.p54 = v.s51)) (hhi : v.s51 ≤ e.hi) (h48 : ∀ b, e.g48 = some b → b = decide (48 < v.a))
    (ht : e.tk ≤ 3 → TouchOk v.a v.nu e.tk) (hpg : e.kind = 2 ∨ e.kind = 3 ∨ e.kind = 4 → PageOk e.kind e.oc v.nu) (hpk : e.kind = 5 → PokeOk v.nu) (base : Nat) (w0 : World) :
    ∃ a' st', Chain (envC e.c e.kind e.tk e.oc) v.nu base 268 [cpRest, cpR15] (set14 (stA e.k)) (stepS e.kind e.x (stS e.k)) a' st' ∧
      ∀ act w, AtS v.nu base w0 a' st' act w → AtS v'.nu base w0 (stA e.k') (stS e.k') act w := by
  have hc := allB_ok stepTab_chk e he
  have hb : e.hi ≤ 63 := by
    unfold chkS at hc
    split at hc
    · split at hc
      · split at hc
        · rename_i g; exact Nat.le_of_ble_eq_true g
        · cases hc
      · cases hc
    · cases hc
  have hN : NuOk ⟨false, v.a, [], Option.none, Option.none, Option.none, Option.none, Option.none, e.on, e.hi, e.g48⟩ v.m v.nu :=
    Vv.ok hv rfl (fun p s _ q => by cases p <;> cases q) hon ⟨hhi, hb⟩ (fun x q => by cases q) (fun x q => by cases q) (fun x q => by cases q) (fun x q => by cases q) h48 (fun x q => by cases q)
  have hS := sfC_ok hN ht hpg hpk (base := base)
  obtain ⟨out, h⟩ := isOkB_ok (stepTab_ok e he)
  obtain ⟨a', st', h1, h2⟩ := runCs_chain hS Tryz.func6 h
  refine ⟨a', st', h2, fun act w k => finR_at h1 (hn.ints he) hn.keep (fun p hp => ?_) (v.lo_eq (by omega)) k⟩
  have := List.mem_singleton.1 hp
  subst this
  show v'.nu (5000 + 0) = v.nu (5000 + 0) + e.lj
  rw [v.nuL, v'.nuL, hn.lg]; push_cast; omega
end Go.Ev
set_option maxRecDepth 100000
namespace Go.Ev
open Go Go.Proofs
/-! plain: the steps that are made, and what holds all the way -/
structure Qs where
  k : Nat
  i : Nat
  lg : Nat
  pg : Nat → Nat
  m : Nat → Nat
  tr : Int
  p54 : Int
  p55 : Int
  w60 : Int
  w61 : Int
structure Inp where
  raw : Int
  a : Nat
  ds : List (Int × Int × Int × Int)
  s80 : Int
  s81 : Int
  s82 : Int
  s83 : Int
def Inp.deed (I : Inp) (i : Nat) : Int × Int × Int × Int := (I.ds[i]?).getD (0, 0, 0, 0)
def Inp.dk (I : Inp) (i : Nat) : Nat := ((IntKind.wrap .u64 (I.deed i).1).tmod 7).toNat
def Inp.page (I : Inp) (i : Nat) : Nat := ((IntKind.wrap .u64 (I.deed i).2.1).tmod 4).toNat
def Inp.addr (I : Inp) (i : Nat) : Nat := ((IntKind.wrap .u64 (I.deed i).2.2.1).tmod 64).toNat
def Inp.byte (I : Inp) (i : Nat) : Nat := (IntKind.wrap .u8 (I.deed i).2.2.2).toNat
def kindD (n : Nat) : Nat := match n with
  | 0 => 5
  | 1 => 2
  | 2 => 4
  | 3 => 3
  | _ => 1
def Inp.kind (I : Inp) (i : Nat) : Nat := if i < I.ds.length ∧ i < 40 then kindD (I.dk i) else if i % 2 = 0 then 2 else 1
def Inp.num (I : Inp) (i : Nat) : Nat := if i < I.ds.length ∧ i < 40 then (if I.dk i = 0 then I.addr i else I.page i) else i / 2 % 4
def isPg (kind : Nat) : Bool := kind == 2 || kind == 3 || kind == 4
def newPg (kind p : Nat) (pg : Nat → Nat) (q : Nat) : Nat := if (isPg kind && (pgSpec kind (pg p)).1 == 0) = true then (if q = p then (pgSpec kind (pg p)).2 else pg q) else pg q
def newM (kind p b : Nat) (m : Nat → Nat) (j : Nat) : Nat := if kind = 5 then (if j = p then b else m j) else m j
def touch (a : Nat) (pg : Nat → Nat) : Nat × Nat := if 48 < a then (3, 0) else match pg (a / 16) with
  | 0 => (1, a / 16)
  | 1 => match pg ((a + 15) / 16) with
    | 0 => (1, (a + 15) / 16)
    | 1 => (0, 0)
    | _ => (2, (a + 15) / 16)
  | _ => (2, a / 16)
def Inp.V (I : Inp) (q : Qs) : Vv := ⟨I.raw, I.a, I.ds.length, q.i, q.lg, q.pg, q.m, newPg (I.kind q.i) (I.num q.i) q.pg, newM (I.kind q.i) (I.num q.i) (I.byte q.i) q.m, q.tr, q.p54, q.p55, q.w60, q.w61,
  (I.deed q.i).1, (I.deed q.i).2.1, (I.deed q.i).2.2.1, (I.deed q.i).2.2.2, I.num q.i, (touch I.a q.pg).2, I.s80, I.s81, I.s82, I.s83⟩
def copies (k : Nat) : Bool := match k with
  | 0 => true
  | 5 => true
  | 9 => true
  | _ => false
def waiting (k : Nat) : Bool := match k with
  | 2 => true
  | _ => false
def rank (k : Nat) : Nat := match k with
  | 0 => 2
  | 5 => 2
  | 9 => 2
  | 2 => 3
  | 1 => 1
  | 3 => 1
  | 10 => 1
  | 11 => 1
  | _ => 0
def beqOB (a b : Option Bool) : Bool := match a with
  | none => match b with
    | none => true
    | _ => false
  | some x => match b with
    | some y => match x with
      | true => y
      | false => match y with
        | true => false
        | false => true
    | _ => false
theorem beqOB_ok {a b : Option Bool} (h : beqOB a b = true) : a = b := by
  cases a with
  | none => cases b with
    | none => rfl
    | some y => cases h
  | some x => cases b with
    | none => cases h
    | some y => cases x <;> cases y <;> first | rfl | cases h
structure Key where
  k : Nat
  kind : Nat
  tk : Nat
  oc : Nat
  on : Option Bool
def isKey (c : Key) (e : Stp) : Bool := and3 (Nat.beq e.k c.k) (Nat.beq e.kind c.kind) (and3 (Nat.beq e.tk c.tk) (Nat.beq e.oc c.oc) (beqOB e.on c.on))
def findK (c : Key) : List Stp → Option Stp
  | [] => none
  | e :: l => match isKey c e with
    | true => some e
    | false => findK c l
theorem findK_ok {c : Key} : ∀ {l : List Stp} {e : Stp}, findK c l = some e → e ∈ l ∧ e.k = c.k ∧ e.kind = c.kind ∧ e.tk = c.tk ∧ e.oc = c.oc ∧ e.on = c.on := by
  intro l
  induction l with
  | nil => intro e h; cases h
  | cons x l ih =>
    intro e h
    simp only [findK] at h
    split at h
    · rename_i g
      cases h
      obtain ⟨h1, h2, h3⟩ := and3_ok g
      obtain ⟨h4, h5, h6⟩ := and3_ok h3
      exact ⟨.head _, Nat.eq_of_beq_eq_true h1, Nat.eq_of_beq_eq_true h2, Nat.eq_of_beq_eq_true h4, Nat.eq_of_beq_eq_true h5, beqOB_ok h6⟩
    · obtain ⟨h1, h2⟩ := ih h
      exact ⟨.tail _ h1, h2⟩
def isSomeB (o : Option Stp) : Bool := match o with
  | some _ => true
  | none => false
/-- the keys that are met at a state -/
def keysAt (k : Nat) : List Key :=
  (match copies k with
    | true => [⟨k, 1, 0, 99, none⟩, ⟨k, 1, 1, 99, none⟩, ⟨k, 1, 2, 99, none⟩, ⟨k, 1, 3, 99, none⟩]
    | false => [⟨k, 1, 9, 99, none⟩]) ++
  (match waiting k with
    | true => [⟨k, 2, 9, 0, some true⟩, ⟨k, 3, 9, 0, some true⟩]
    | false => []) ++
  [⟨k, 2, 9, 0, some false⟩, ⟨k, 3, 9, 0, some false⟩, ⟨k, 2, 9, 5, none⟩, ⟨k, 2, 9, 14, none⟩, ⟨k, 3, 9, 5, none⟩, ⟨k, 4, 9, 0, none⟩, ⟨k, 4, 9, 4, none⟩, ⟨k, 5, 9, 0, none⟩]
theorem keys_all : allN 14 (fun k => allB (fun c => isSomeB (findK c stepTab)) (keysAt k)) = true := by kernel_rfl
def sameSl (k k' : Nat) : Bool := match Nat.blt k 9 with
  | true => Nat.blt k' 9
  | false => match Nat.blt k' 9 with
    | true => false
    | false => Nat.blt k' 14
/-- what is true of the table's steps -/
def facts (e : Stp) : Bool :=
  and3 (sameSl e.k e.k')
    (match waiting e.k' with
      | true => match waiting e.k with
        | true => and3 (match look e.ints 54 with
            | some x => isAt x 54
            | none => false) true (match e.on with
            | some b => match b with
              | true => false
              | false => true
            | none => true)
        | false => and3 (match look e.ints 54 with
            | some x => isAt x 56
            | none => false) (Nat.beq e.kind 1) (Nat.beq e.tk 1)
      | false => match look e.ints 54 with
        | some _ => false
        | none => true)
    (and3 (match Nat.beq e.kind 1 with
        | true => match Nat.beq e.tk 1 with
          | true => true
          | false => match waiting e.k with
            | true => true
            | false => Nat.ble (rank e.k') (rank e.k - 1)
        | false => match waiting e.k with
          | true => true
          | false => Nat.beq e.k' e.k)
      (match e.kp with
        | true => (match isPg e.kind with
            | true => (match Nat.beq e.oc 0 with
              | true => false
              | false => true)
            | false => true)
        | false => (match isPg e.kind with
            | true => Nat.beq e.oc 0
            | false => false))
      (and3 (match e.kb with
        | true => (match Nat.beq e.kind 5 with
          | true => false
          | false => true)
        | false => Nat.beq e.kind 5)
        (match Nat.beq e.kind 5 with
          | true => Nat.beq e.hi 63
          | false => Nat.beq e.hi 3)
        (match e.g48 with
          | none => true
          | some b => match b with
            | true => false
            | false => and3 (Nat.beq e.tk 0) (Nat.beq e.kind 1) true)))
theorem facts_all : allB facts stepTab = true := by kernel_rfl
end Go.Ev
set_option maxRecDepth 100000
namespace Go.Ev
open Go Go.Proofs
structure Inp.Ok (I : Inp) : Prop where
  a70 : I.a < 70
  rem : (IntKind.wrap .u64 I.raw).tmod 70 = I.a
def Inp.key (I : Inp) (q : Qs) : Key :=
  if I.kind q.i = 1 then ⟨q.k, 1, if copies q.k = true then (touch I.a q.pg).1 else 9, 99, none⟩
  else if I.kind q.i = 5 then ⟨q.k, 5, 9, 0, none⟩
  else ⟨q.k, I.kind q.i, 9, (pgSpec (I.kind q.i) (q.pg (I.num q.i))).1, if I.kind q.i = 4 ∨ (pgSpec (I.kind q.i) (q.pg (I.num q.i))).1 ≠ 0 then none else some (decide (q.p54 = (I.num q.i : Int)))⟩
structure Inv (I : Inp) (sl : Bool) (q : Qs) : Prop where
  kl : if sl = true then q.k < 9 else 9 ≤ q.k ∧ q.k < 14
  i : q.i ≤ 60
  lg : 1 ≤ q.lg ∧ q.lg ≤ 500 + 40 * q.i
  pg : ∀ p, q.pg p < 3
  m : ∀ j, q.m j < 256
  w : q.k = 2 → ∃ p, p < 4 ∧ q.p54 = ((p : Nat) : Int) ∧ q.pg p = 0
  nw : q.k ≠ 2 → q.p54 = -1
  br : ∀ p, p < 4 → 40 + 2 * p < q.i → q.pg p ≠ 0
  r1 : 49 < q.i → rank q.k ≤ 1
  r0 : 51 < q.i → rank q.k = 0
theorem kind_cases (I : Inp) (i : Nat) : I.kind i = 1 ∨ I.kind i = 2 ∨ I.kind i = 3 ∨ I.kind i = 4 ∨ I.kind i = 5 := by
  unfold Inp.kind
  split
  · unfold kindD; split <;> omega
  · split <;> omega
theorem page_lt (I : Inp) (i : Nat) : I.page i < 4 := by
  have := tmod_small (wrap64 (I.deed i).2.1) 4 (by omega)
  unfold Inp.page; omega
theorem addr_lt (I : Inp) (i : Nat) : I.addr i < 64 := by
  have := tmod_small (wrap64 (I.deed i).2.2.1) 64 (by omega)
  unfold Inp.addr; omega
theorem num_lt (I : Inp) (i : Nat) (h : I.kind i ≠ 5) : I.num i < 4 := by
  unfold Inp.num
  unfold Inp.kind at h
  split
  · rename_i g
    rw [if_pos g] at h
    split
    · rename_i g2; rw [g2] at h; exact absurd rfl h
    · exact page_lt I i
  · omega
theorem num_lt64 (I : Inp) (i : Nat) : I.num i < 64 := by
  unfold Inp.num
  split
  · split
    · exact addr_lt I i
    · have := page_lt I i; omega
  · omega
theorem pgSpec_lt (kind s : Nat) (h : s < 3) : (pgSpec kind s).2 < 3 := by
  unfold pgSpec
  split <;> split <;> first | omega | (dsimp only; omega)
theorem touch_lt (a : Nat) (pg : Nat → Nat) : (touch a pg).1 ≤ 3 := by
  unfold touch
  split
  · exact Nat.le_refl _
  · split
    · dsimp only; omega
    · split <;> dsimp only <;> omega
    · dsimp only; omega
theorem Inv.k14 {I : Inp} {sl : Bool} {q : Qs} (h : Inv I sl q) : q.k < 14 := by
  have := h.kl
  split at this <;> omega
theorem key_mem {I : Inp} {sl : Bool} {q : Qs} (h : Inv I sl q) : I.key q ∈ keysAt q.k := by
  have hs : q.pg (I.num q.i) < 3 := h.pg _
  unfold Inp.key keysAt
  by_cases h1 : I.kind q.i = 1
  · rw [if_pos h1]
    apply List.mem_append.2 ∘ Or.inl
    apply List.mem_append.2 ∘ Or.inl
    cases hc : copies q.k with
    | true =>
      rw [if_pos rfl]
      dsimp only
      have := touch_lt I.a q.pg
      generalize (touch I.a q.pg).1 = t at *
      match t, this with
      | 0, _ => simp
      | 1, _ => simp
      | 2, _ => simp
      | 3, _ => simp
    | false =>
      rw [if_neg (by simp)]
      simp
  · rw [if_neg h1]
    by_cases h5 : I.kind q.i = 5
    · rw [if_pos h5]
      apply List.mem_append.2 ∘ Or.inr
      simp
    · rw [if_neg h5]
      have hd : waiting q.k = false → decide (q.p54 = (I.num q.i : Int)) = false := fun hw => by
        have hk : q.k ≠ 2 := fun e => by rw [e] at hw; cases hw
        rw [h.nw hk]
        exact decide_eq_false (by omega)
      have hin : ∀ c, c ∈ (match waiting q.k with
          | true => [⟨q.k, 2, 9, 0, some true⟩, ⟨q.k, 3, 9, 0, some true⟩]
          | false => [] : List Key) ++ [⟨q.k, 2, 9, 0, some false⟩, ⟨q.k, 3, 9, 0, some false⟩, ⟨q.k, 2, 9, 5, none⟩, ⟨q.k, 2, 9, 14, none⟩, ⟨q.k, 3, 9, 5, none⟩, ⟨q.k, 4, 9, 0, none⟩, ⟨q.k, 4, 9, 4, none⟩, ⟨q.k, 5, 9, 0, none⟩] →
          c ∈ ((match copies q.k with
            | true => [⟨q.k, 1, 0, 99, none⟩, ⟨q.k, 1, 1, 99, none⟩, ⟨q.k, 1, 2, 99, none⟩, ⟨q.k, 1, 3, 99, none⟩]
            | false => [⟨q.k, 1, 9, 99, none⟩]) ++ (match waiting q.k with
            | true => [⟨q.k, 2, 9, 0, some true⟩, ⟨q.k, 3, 9, 0, some true⟩]
            | false => [])) ++ [⟨q.k, 2, 9, 0, some false⟩, ⟨q.k, 3, 9, 0, some false⟩, ⟨q.k, 2, 9, 5, none⟩, ⟨q.k, 2, 9, 14, none⟩, ⟨q.k, 3, 9, 5, none⟩, ⟨q.k, 4, 9, 0, none⟩, ⟨q.k, 4, 9, 4, none⟩, ⟨q.k, 5, 9, 0, none⟩] := fun c hc => by
        rcases List.mem_append.1 hc with hc | hc
        · exact List.mem_append.2 (.inl (List.mem_append.2 (.inr hc)))
        · exact List.mem_append.2 (.inr hc)
      apply hin
      rcases kind_cases I q.i with e | e | e | e | e
      · exact absurd e h1
      · rw [e]
        generalize q.pg (I.num q.i) = s at *
        match s, hs with
        | 0, _ =>
          simp only [pgSpec]
          rw [if_neg (by simp)]
          cases hw : waiting q.k with
          | true => cases decide (q.p54 = (I.num q.i : Int)) <;> simp
          | false => rw [hd hw]; simp
        | 1, _ => simp [pgSpec]
        | 2, _ => simp [pgSpec]
      · rw [e]
        generalize q.pg (I.num q.i) = s at *
        match s, hs with
        | 0, _ =>
          simp only [pgSpec]
          rw [if_neg (by simp)]
          cases hw : waiting q.k with
          | true => cases decide (q.p54 = (I.num q.i : Int)) <;> simp
          | false => rw [hd hw]; simp
        | 1, _ =>
          simp only [pgSpec]
          rw [if_neg (by simp)]
          cases hw : waiting q.k with
          | true => cases decide (q.p54 = (I.num q.i : Int)) <;> simp
          | false => rw [hd hw]; simp
        | 2, _ => simp [pgSpec]
      · rw [e]
        generalize q.pg (I.num q.i) = s at *
        match s, hs with
        | 0, _ => simp [pgSpec]
        | 1, _ => simp [pgSpec]
        | 2, _ => simp [pgSpec]
      · exact absurd e h5
theorem key_found {I : Inp} {sl : Bool} {q : Qs} (h : Inv I sl q) : ∃ e, findK (I.key q) stepTab = some e := by
  have h1 := allN_ok (f := fun k => allB (fun c => isSomeB (findK c stepTab)) (keysAt k)) keys_all q.k h.k14
  have h2 := allB_ok h1 _ (key_mem h)
  unfold isSomeB at h2
  split at h2
  · rename_i e g; exact ⟨e, g⟩
  · cases h2
def Inp.next (I : Inp) (q : Qs) (e : Stp) : Qs := ⟨e.k', q.i + 1, q.lg + e.lj, newPg (I.kind q.i) (I.num q.i) q.pg, newM (I.kind q.i) (I.num q.i) (I.byte q.i) q.m,
  lkV e (I.V q) 52 0, lkV e (I.V q) 54 (-1), lkV e (I.V q) 55 0, lkV e (I.V q) 60 0, lkV e (I.V q) 61 0⟩
theorem V_good {I : Inp} (hI : I.Ok) {sl : Bool} {q : Qs} (h : Inv I sl q) : (I.V q).Good :=
  ⟨hI.a70, hI.rem, h.m, by have := h.i; show q.i < 1000; omega, h.lg.1, by have := h.i; have := h.lg.2; show q.lg ≤ 3000; omega⟩
end Go.Ev
set_option maxRecDepth 100000
namespace Go.Ev
open Go Go.Proofs
/-- the table's facts, said in full -/
structure Facts1 (e : Stp) : Prop where
  sl : sameSl e.k e.k' = true
  wait : e.k' = 2 → (e.k = 2 ∧ look e.ints 54 = some (.atom 54) ∧ e.on ≠ some true) ∨ (e.k ≠ 2 ∧ look e.ints 54 = some (.atom 56) ∧ e.kind = 1 ∧ e.tk = 1)
  nowait : e.k' ≠ 2 → look e.ints 54 = none
  pick : e.kind = 1 → e.tk ≠ 1 → e.k ≠ 2 → rank e.k' ≤ rank e.k - 1
  rest : e.kind ≠ 1 → e.k ≠ 2 → e.k' = e.k
  kp : e.kp = !(isPg e.kind && e.oc == 0)
  kb : e.kb = !(e.kind == 5)
  hi : e.hi = if e.kind = 5 then 63 else 3
  g48 : ∀ b, e.g48 = some b → b = false ∧ e.tk = 0 ∧ e.kind = 1
theorem waiting_ok {k : Nat} : waiting k = true ↔ k = 2 := by
  unfold waiting
  split
  · simp
  · rename_i h
    constructor
    · intro e; cases e
    · intro e; exact absurd e h
theorem beq_tf {a b : Nat} : (Nat.beq a b = true ↔ a = b) ∧ (Nat.beq a b = false ↔ a ≠ b) := by
  refine ⟨⟨Nat.eq_of_beq_eq_true, fun e => by rw [e]; exact Nat.beq_refl b⟩, ⟨Nat.ne_of_beq_eq_false, fun h => ?_⟩⟩
  cases e : Nat.beq a b with
  | true => exact absurd (Nat.eq_of_beq_eq_true e) h
  | false => rfl
theorem facts_ok {e : Stp} (h : facts e = true) : Facts1 e := by
  unfold facts at h
  obtain ⟨h1, h2, h3⟩ := and3_ok h
  obtain ⟨h4, h5, h6⟩ := and3_ok h3
  obtain ⟨h7, h8, h9⟩ := and3_ok h6
  refine ⟨h1, fun hk => ?_, fun hk => ?_, fun hk ht hw => ?_, fun hk hw => ?_, ?_, ?_, ?_, fun b hb => ?_⟩
  · rw [waiting_ok.2 hk] at h2
    dsimp only at h2
    split at h2
    · rename_i g
      obtain ⟨a1, _, a3⟩ := and3_ok h2
      refine .inl ⟨waiting_ok.1 g, ?_, fun ho => ?_⟩
      · split at a1
        · rename_i x gx; rw [gx, isAt_ok a1]
        · cases a1
      · rw [ho] at a3; cases a3
    · rename_i g
      obtain ⟨a1, a2, a3⟩ := and3_ok h2
      refine .inr ⟨fun hw => ?_, ?_, Nat.eq_of_beq_eq_true a2, Nat.eq_of_beq_eq_true a3⟩
      · rw [waiting_ok.2 hw] at g; cases g
      · split at a1
        · rename_i x gx; rw [gx, isAt_ok a1]
        · cases a1
  · split at h2
    · rename_i g; exact absurd (waiting_ok.1 g) hk
    · split at h2
      · cases h2
      · assumption
  · rw [beq_tf.1.2 hk, beq_tf.2.2 ht] at h4
    dsimp only at h4
    split at h4
    · rename_i g; exact absurd (waiting_ok.1 g) hw
    · exact Nat.le_of_ble_eq_true h4
  · rw [beq_tf.2.2 hk] at h4
    dsimp only at h4
    split at h4
    · rename_i g; exact absurd (waiting_ok.1 g) hw
    · exact Nat.eq_of_beq_eq_true h4
  · split at h5
    · rename_i g
      rw [g]
      split at h5
      · rename_i g2
        rw [g2]
        split at h5
        · cases h5
        · rename_i g3
          have := beq_tf.2.1 g3
          cases ho : e.oc with
          | zero => exact absurd ho this
          | succ n => rfl
      · rename_i g2; rw [g2]; rfl
    · rename_i g
      rw [g]
      split at h5
      · rename_i g2
        rw [g2, Nat.eq_of_beq_eq_true h5]; rfl
      · cases h5
  · split at h7
    · rename_i g
      rw [g]
      split at h7
      · cases h7
      · rename_i g2
        have := beq_tf.2.1 g2
        cases hq : e.kind == 5 with
        | true => exact absurd (eq_of_beq hq) this
        | false => rfl
    · rename_i g
      rw [g, Nat.eq_of_beq_eq_true h7]; rfl
  · split at h8
    · rename_i g
      rw [if_pos (Nat.eq_of_beq_eq_true g)]; exact Nat.eq_of_beq_eq_true h8
    · rename_i g
      rw [if_neg (beq_tf.2.1 g)]; exact Nat.eq_of_beq_eq_true h8
  · rw [hb] at h9
    dsimp only at h9
    split at h9
    · cases h9
    · obtain ⟨a1, a2, _⟩ := and3_ok h9
      exact ⟨rfl, Nat.eq_of_beq_eq_true a1, Nat.eq_of_beq_eq_true a2⟩
/-- the step that the key finds -/
structure Hit (I : Inp) (q : Qs) (e : Stp) : Prop where
  mem : e ∈ stepTab
  k : e.k = q.k
  kind : e.kind = I.kind q.i
  tk : e.tk = if I.kind q.i = 1 ∧ copies q.k = true then (touch I.a q.pg).1 else 9
  oc : isPg (I.kind q.i) = true → e.oc = (pgSpec (I.kind q.i) (q.pg (I.num q.i))).1
  on : ∀ b, e.on = some b → b = decide (q.p54 = (I.num q.i : Int))
  on2 : I.kind q.i = 2 ∨ I.kind q.i = 3 → e.oc = 0 → e.on = some (decide (q.p54 = (I.num q.i : Int)))
theorem isPg_ok {k : Nat} : isPg k = true ↔ k = 2 ∨ k = 3 ∨ k = 4 := by
  unfold isPg
  simp [or_assoc]
theorem hit {I : Inp} {sl : Bool} {q : Qs} (h : Inv I sl q) : ∃ e, Hit I q e := by
  obtain ⟨e, he⟩ := key_found h
  obtain ⟨m, h1, h2, h3, h4, h5⟩ := findK_ok he
  refine ⟨e, m, ?_, ?_, ?_, ?_, ?_, ?_⟩
  all_goals unfold Inp.key at h1 h2 h3 h4 h5
  all_goals by_cases g1 : I.kind q.i = 1
  all_goals try simp only [g1, if_pos] at h1 h2 h3 h4 h5
  all_goals try simp only [if_false] at h1 h2 h3 h4 h5
  all_goals by_cases g5 : I.kind q.i = 5
  all_goals try (rw [g1] at g5; cases g5; done)
  all_goals try simp only [g5, if_pos] at h1 h2 h3 h4 h5
  all_goals try simp only [if_false] at h1 h2 h3 h4 h5
  · exact h1
  · exact h1
  · exact h1
  · rw [h2, g1]
  · rw [h2, g5]
  · exact h2
  · simp only [g1, true_and]; exact h3
  · rw [if_neg (by omega)]; exact h3
  · rw [if_neg (by omega)]; exact h3
  · intro hp; have := isPg_ok.1 hp; omega
  · intro hp; have := isPg_ok.1 hp; omega
  · intro hp; exact h4
  · intro b hb; rw [h5] at hb; cases hb
  · intro b hb; rw [h5] at hb; cases hb
  · intro b hb
    rw [h5] at hb
    split at hb
    · cases hb
    · cases hb; rfl
  · intro hk; omega
  · intro hk; omega
  · intro hk ho
    rw [h5, if_neg (by omega)]
end Go.Ev
set_option maxRecDepth 100000
namespace Go.Ev
open Go Go.Proofs
theorem newPg_not {kind p : Nat} {pg : Nat → Nat} (h : ¬ (isPg kind = true ∧ (pgSpec kind (pg p)).1 = 0)) : newPg kind p pg = pg := by
  funext q
  unfold newPg
  rw [if_neg]
  intro g
  rw [Bool.and_eq_true] at g
  exact h ⟨g.1, eq_of_beq g.2⟩
theorem newPg_yes {kind p : Nat} {pg : Nat → Nat} (h1 : isPg kind = true) (h2 : (pgSpec kind (pg p)).1 = 0) (q : Nat) : newPg kind p pg q = if q = p then (pgSpec kind (pg p)).2 else pg q := by
  unfold newPg
  rw [if_pos (by rw [h1, h2]; rfl)]
theorem newPg_lt {kind p : Nat} {pg : Nat → Nat} (h : ∀ q, pg q < 3) (q : Nat) : newPg kind p pg q < 3 := by
  unfold newPg
  split
  · split
    · exact pgSpec_lt _ _ (h p)
    · exact h q
  · exact h q
theorem byte_lt (I : Inp) (i : Nat) : I.byte i < 256 ∧ ((I.byte i : Nat) : Int) = IntKind.wrap .u8 (I.deed i).2.2.2 := by
  have : 0 ≤ IntKind.wrap .u8 (I.deed i).2.2.2 ∧ IntKind.wrap .u8 (I.deed i).2.2.2 < 256 := by
    simp [IntKind.wrap, IntKind.signed, IntKind.bits]
    omega
  unfold Inp.byte
  omega
theorem newM_lt {kind p b : Nat} {m : Nat → Nat} (h : ∀ j, m j < 256) (hb : b < 256) (j : Nat) : newM kind p b m j < 256 := by
  unfold newM
  split
  · split
    · exact hb
    · exact h j
  · exact h j
theorem hit_pg {I : Inp} {q : Qs} {e : Stp} (h : Hit I q e) : (e.kp = true → newPg (I.kind q.i) (I.num q.i) q.pg = q.pg) := by
  intro hk
  have f := facts_ok (allB_ok facts_all e h.mem)
  apply newPg_not
  rintro ⟨h1, h2⟩
  have hoc := h.oc h1
  rw [h2] at hoc
  have := f.kp
  rw [hk, h.kind, h1, hoc] at this
  cases this
theorem hit_m {I : Inp} {q : Qs} {e : Stp} (h : Hit I q e) : (e.kb = true → newM (I.kind q.i) (I.num q.i) (I.byte q.i) q.m = q.m) := by
  intro hk
  have f := facts_ok (allB_ok facts_all e h.mem)
  funext j
  unfold newM
  rw [if_neg]
  intro h5
  have := f.kb
  rw [hk, h.kind, h5] at this
  cases this
theorem hit_next {I : Inp} {q : Qs} {e : Stp} (h : Hit I q e) : NextOk e (I.V q) (I.V (I.next q e)) := by
  refine ⟨rfl, rfl, rfl, rfl, rfl, fun p hp => ?_, fun j hj => ?_, rfl, rfl, rfl, rfl, rfl, rfl, rfl, rfl, rfl⟩
  · show ((newPg (I.kind q.i) (I.num q.i) q.pg p : Nat) : Int) = if e.kp = true then (q.pg p : Int) else newPg (I.kind q.i) (I.num q.i) q.pg p
    split
    · rename_i g; rw [hit_pg h g]
    · rfl
  · show ((newM (I.kind q.i) (I.num q.i) (I.byte q.i) q.m j : Nat) : Int) = if e.kb = true then (q.m j : Int) else newM (I.kind q.i) (I.num q.i) (I.byte q.i) q.m j
    split
    · rename_i g; rw [hit_m h g]
    · rfl
theorem touch_ok {I : Inp} {sl : Bool} {q : Qs} (h : Inv I sl q) (ha : I.a < 70) : TouchOk I.a (I.V q).nu (touch I.a q.pg).1 := by
  unfold TouchOk
  have e56 : (I.V q).nu 56 = ((touch I.a q.pg).2 : Nat) := (I.V q).lo_eq (by omega)
  unfold touch at e56 ⊢
  by_cases g : 48 < I.a
  · rw [if_pos g]; exact .inl ⟨rfl, g⟩
  · rw [if_neg g] at e56 ⊢
    have p1 : (I.V q).nu (10 + I.a / 16) = q.pg (I.a / 16) := (I.V q).nuP (by omega)
    have p2 : (I.V q).nu (10 + (I.a + 15) / 16) = q.pg ((I.a + 15) / 16) := (I.V q).nuP (by omega)
    refine .inr ⟨by omega, ?_⟩
    rw [p1, p2]
    have l1 := h.pg (I.a / 16)
    have l2 := h.pg ((I.a + 15) / 16)
    generalize q.pg (I.a / 16) = s1 at *
    generalize q.pg ((I.a + 15) / 16) = s2 at *
    match s1, l1 with
    | 0, _ => exact .inl ⟨rfl, rfl, e56⟩
    | 2, _ => exact .inr (.inl ⟨rfl, rfl, e56⟩)
    | 1, _ =>
      refine .inr (.inr ⟨rfl, ?_⟩)
      match s2, l2 with
      | 0, _ => exact .inr (.inl ⟨rfl, rfl, e56⟩)
      | 1, _ => exact .inl ⟨rfl, rfl⟩
      | 2, _ => exact .inr (.inr ⟨rfl, rfl, e56⟩)
theorem page_ok {I : Inp} {sl : Bool} {q : Qs} (h : Inv I sl q) {e : Stp} (k : Hit I q e) (hk : e.kind = 2 ∨ e.kind = 3 ∨ e.kind = 4) : PageOk e.kind e.oc (I.V q).nu := by
  have hp : isPg (I.kind q.i) = true := isPg_ok.2 (by rw [← k.kind]; exact hk)
  have hn : I.num q.i < 4 := num_lt I q.i (by rw [← k.kind]; omega)
  rw [k.kind, k.oc hp]
  refine ⟨I.num q.i, q.pg (I.num q.i), hn, h.pg _, (I.V q).lo_eq (n := 51) (by omega), (I.V q).nuP hn, rfl, fun h0 p hp4 => ?_⟩
  rw [(I.V q).nuP' hp4]
  show ((newPg (I.kind q.i) (I.num q.i) q.pg p : Nat) : Int) = _
  rw [newPg_yes hp h0, (I.V q).nuP hp4]
  split <;> rfl
theorem poke_ok {I : Inp} {q : Qs} {e : Stp} (k : Hit I q e) (hk : e.kind = 5) : PokeOk (I.V q).nu := by
  refine ⟨I.num q.i, num_lt64 I q.i, (I.V q).lo_eq (n := 51) (by omega), fun j hj => ?_⟩
  rw [(I.V q).nuM' hj, (I.V q).nuM hj, show (I.V q).nu 50 = IntKind.wrap .u8 (I.deed q.i).2.2.2 from (I.V q).lo_eq (n := 50) (by omega), ← (byte_lt I q.i).2]
  show ((newM (I.kind q.i) (I.num q.i) (I.byte q.i) q.m j : Nat) : Int) = _
  unfold newM
  rw [if_pos (by rw [← k.kind]; exact hk)]
  split <;> rfl
/-- the law of the step that is made -/
theorem hit_law {I : Inp} (hI : I.Ok) {sl : Bool} {q : Qs} (h : Inv I sl q) {e : Stp} (k : Hit I q e) (base : Nat) (w0 : World) :
    ∃ a' st', Chain (envC e.c e.kind e.tk e.oc) (I.V q).nu base 268 [cpRest, cpR15] (set14 (stA e.k)) (stepS e.kind e.x (stS e.k)) a' st' ∧
      ∀ act w, AtS (I.V q).nu base w0 a' st' act w → AtS (I.V (I.next q e)).nu base w0 (stA e.k') (stS e.k') act w := by
  have f := facts_ok (allB_ok facts_all e k.mem)
  have htk : ∀ n, n ≤ 3 → e.tk = n → I.kind q.i = 1 ∧ copies q.k = true ∧ (touch I.a q.pg).1 = n := fun n hn ht => by
    have := k.tk
    rw [ht] at this
    split at this
    · rename_i g; exact ⟨g.1, g.2, this.symm⟩
    · omega
  refine step_law k.mem (V_good hI h) (hit_next k) k.on ?_ (fun b hb => ?_) (fun ht => ?_) (page_ok h k) (poke_ok k) base w0
  · rw [f.hi]
    show I.num q.i ≤ _
    have := num_lt64 I q.i
    split
    · omega
    · rename_i g
      have := num_lt I q.i (by rw [← k.kind]; exact g)
      omega
  · obtain ⟨g1, g2, g3⟩ := f.g48 b hb
    obtain ⟨_, _, g4⟩ := htk 0 (by omega) g2
    rw [g1]
    refine (decide_eq_false ?_).symm
    show ¬ 48 < I.a
    intro ga
    unfold touch at g4
    rw [if_pos ga] at g4
    cases g4
  · have := htk e.tk ht rfl
    rw [← this.2.2]
    exact touch_ok h hI.a70
end Go.Ev
set_option maxRecDepth 100000
namespace Go.Ev
open Go Go.Proofs
theorem hit_lj {e : Stp} (h : e ∈ stepTab) : e.lj ≤ 40 := by
  have hc := allB_ok stepTab_chk e h
  unfold chkS at hc
  split at hc
  · split at hc
    · rename_i g; exact Nat.le_of_ble_eq_true g
    · cases hc
  · cases hc
/-- a touch that finds an absent page -/
theorem touch_wait {a : Nat} {pg : Nat → Nat} (ha : a < 70) (h : (touch a pg).1 = 1) : (touch a pg).2 < 4 ∧ pg (touch a pg).2 = 0 := by
  unfold touch at h ⊢
  by_cases g : 48 < a
  · rw [if_pos g] at h; cases h
  · rw [if_neg g] at h ⊢
    split at h
    · rename_i g1; rw [g1]; exact ⟨by dsimp only; omega, by first | exact g1 | rfl⟩
    · rename_i g1
      split at h
      · rename_i g2; rw [g2]; exact ⟨by dsimp only; omega, by first | exact g2 | rfl⟩
      · cases h
      · cases h
    · cases h
theorem rank_2 {k : Nat} (h : k ≠ 2) : rank k ≤ 2 := by
  unfold rank
  split <;> omega
theorem late {I : Inp} {i : Nat} (h : 40 ≤ i) : (i % 2 = 0 → I.kind i = 2 ∧ I.num i = i / 2 % 4) ∧ (i % 2 = 1 → I.kind i = 1) := by
  have g0 : ¬ (i < I.ds.length ∧ i < 40) := by omega
  unfold Inp.kind Inp.num
  rw [if_neg g0, if_neg g0]
  refine ⟨fun g => ?_, fun g => ?_⟩
  · rw [if_pos g]; exact ⟨rfl, rfl⟩
  · rw [if_neg (by omega)]
theorem inv_next {I : Inp} (hI : I.Ok) {sl : Bool} {q : Qs} (h : Inv I sl q) (hi : q.i < 60) {e : Stp} (k : Hit I q e) : Inv I sl (I.next q e) := by
  have f := facts_ok (allB_ok facts_all e k.mem)
  have nowpg : I.kind q.i = 1 → newPg (I.kind q.i) (I.num q.i) q.pg = q.pg := fun g => newPg_not (fun x => by rw [g] at x; cases x.1)
  have tk1 : I.kind q.i = 1 → (∀ p, p < 4 → q.pg p ≠ 0) → e.tk ≠ 1 := fun g hp ht => by
    have := k.tk
    rw [ht] at this
    split at this
    · have w := touch_wait hI.a70 this.symm
      exact hp _ w.1 w.2
    · cases this
  have nw2 : (∀ p, p < 4 → q.pg p ≠ 0) → q.k ≠ 2 := fun hp e2 => by
    obtain ⟨p, p1, p2, p3⟩ := h.w e2
    exact hp p p1 p3
  have allp : 46 < q.i → ∀ p, p < 4 → q.pg p ≠ 0 := fun g p hp => h.br p hp (by omega)
  have hrank : 48 < q.i → rank e.k' ≤ rank q.k ∧ (q.i % 2 = 1 → rank e.k' ≤ rank q.k - 1) := fun g => by
    have n2 := nw2 (allp (by omega))
    have ek : e.k ≠ 2 := by rw [k.k]; exact n2
    by_cases g1 : I.kind q.i = 1
    · have := f.pick (by rw [k.kind]; exact g1) (tk1 g1 (allp (by omega))) ek
      rw [k.k] at this
      exact ⟨by omega, fun _ => this⟩
    · have := f.rest (by rw [k.kind]; exact g1) ek
      rw [this, k.k]
      exact ⟨Nat.le_refl _, fun g2 => absurd ((late (by omega)).2 g2) g1⟩
  refine ⟨?_, ?_, ?_, newPg_lt h.pg, newM_lt h.m (byte_lt I q.i).1, fun hk => ?_, fun hk => ?_, fun p hp g => ?_, fun g => ?_, fun g => ?_⟩
  · have h1 := f.sl
    have h2 := h.kl
    rw [k.k] at h1
    unfold sameSl at h1
    show if sl = true then e.k' < 9 else 9 ≤ e.k' ∧ e.k' < 14
    cases sl with
    | true =>
      rw [if_pos rfl] at h2 ⊢
      rw [show Nat.blt q.k 9 = true from Nat.ble_eq_true_of_le h2] at h1
      exact Nat.le_of_ble_eq_true h1
    | false =>
      rw [if_neg (by simp)] at h2 ⊢
      split at h1
      · rename_i g; have : q.k < 9 := Nat.le_of_ble_eq_true g; omega
      · split at h1
        · cases h1
        · rename_i g
          have h3 : e.k' < 14 := Nat.le_of_ble_eq_true h1
          refine ⟨?_, h3⟩
          rcases Nat.lt_or_ge e.k' 9 with x | x
          · rw [show Nat.blt e.k' 9 = true from Nat.ble_eq_true_of_le x] at g; cases g
          · exact x
  · show q.i + 1 ≤ 60; omega
  · have := hit_lj k.mem
    have := h.lg
    show 1 ≤ q.lg + e.lj ∧ q.lg + e.lj ≤ 500 + 40 * (q.i + 1)
    omega
  · have hk : e.k' = 2 := hk
    show ∃ p, p < 4 ∧ lkV e (I.V q) 54 (-1) = ((p : Nat) : Int) ∧ newPg (I.kind q.i) (I.num q.i) q.pg p = 0
    rcases f.wait hk with ⟨w1, w2, w3⟩ | ⟨w1, w2, w3, w4⟩
    · obtain ⟨p, p1, p2, p3⟩ := h.w (by rw [← k.k]; exact w1)
      refine ⟨p, p1, ?_, ?_⟩
      · unfold lkV
        rw [w2]
        show (I.V q).nu 54 = _
        rw [(I.V q).lo_eq (by omega)]
        exact p2
      · by_cases g : isPg (I.kind q.i) = true ∧ (pgSpec (I.kind q.i) (q.pg (I.num q.i))).1 = 0
        · rw [newPg_yes g.1 g.2]
          split
          · rename_i gp
            rcases isPg_ok.1 g.1 with x | x | x
            · have := k.on2 (.inl x) (by rw [k.oc g.1]; exact g.2)
              rw [p2, gp] at this
              exact absurd (by rw [this]; simp) w3
            · have := k.on2 (.inr x) (by rw [k.oc g.1]; exact g.2)
              rw [p2, gp] at this
              exact absurd (by rw [this]; simp) w3
            · have g2 := g.2
              rw [x, ← gp, p3] at g2
              cases g2
          · exact p3
        · rw [newPg_not g]; exact p3
    · have hk1 : I.kind q.i = 1 := by rw [← k.kind]; exact w3
      have ht := k.tk
      rw [w4] at ht
      split at ht
      · have := touch_wait hI.a70 ht.symm
        refine ⟨(touch I.a q.pg).2, this.1, ?_, ?_⟩
        · unfold lkV
          rw [w2]
          exact (I.V q).lo_eq (n := 56) (by omega)
        · rw [nowpg hk1]; exact this.2
      · cases ht
  · have hk : e.k' ≠ 2 := hk
    show lkV e (I.V q) 54 (-1) = -1
    unfold lkV
    rw [f.nowait hk]
  · have g : 40 + 2 * p < q.i + 1 := g
    show newPg (I.kind q.i) (I.num q.i) q.pg p ≠ 0
    have hl := late (I := I) (i := q.i) (by omega)
    by_cases par : q.i % 2 = 1
    · rw [nowpg (hl.2 par)]
      exact h.br p hp (by omega)
    · obtain ⟨l1, l2⟩ := hl.1 (by omega)
      rw [l1, l2]
      by_cases gp : p = q.i / 2 % 4
      · rw [← gp]
        have hs := h.pg p
        cases hz : q.pg p with
        | zero =>
          rw [newPg_yes (by rfl) (by rw [hz]; rfl), if_pos rfl, hz]
          decide
        | succ n =>
          rw [newPg_not (by
            rintro ⟨_, x⟩
            rw [hz] at x hs
            match n, hs with
            | 0, _ => cases x
            | 1, _ => cases x), hz]
          omega
      · have : q.pg p ≠ 0 := h.br p hp (by omega)
        by_cases gg : isPg 2 = true ∧ (pgSpec 2 (q.pg (q.i / 2 % 4))).1 = 0
        · rw [newPg_yes gg.1 gg.2, if_neg gp]; exact this
        · rw [newPg_not gg]; exact this
  · have g : 49 < q.i + 1 := g
    show rank e.k' ≤ 1
    have hr := hrank (by omega)
    by_cases g2 : q.i = 49
    · have := hr.2 (by omega)
      have := rank_2 (nw2 (allp (by omega)))
      omega
    · have := h.r1 (by omega)
      omega
  · have g : 51 < q.i + 1 := g
    show rank e.k' = 0
    have hr := hrank (by omega)
    by_cases g2 : q.i = 51
    · have := hr.2 (by omega)
      have := h.r1 (by omega)
      omega
    · have := h.r0 (by omega)
      omega
end Go.Ev
