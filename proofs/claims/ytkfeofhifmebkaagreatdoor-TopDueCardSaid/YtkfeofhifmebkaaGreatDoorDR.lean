/- The tops: a verified evaluator of the program (DR). -/
import Derived.Test.YtkfeofhifmebkaaGreatDoorDM
import Derived.Test.YtkfeofhifmebkaaGreatDoorDKa
import Derived.Test.YtkfeofhifmebkaaGreatDoorDKb
import Derived.Test.YtkfeofhifmebkaaGreatDoorDKc
import Derived.Test.YtkfeofhifmebkaaGreatDoorDKd
import Derived.Test.YtkfeofhifmebkaaGreatDoorDKe
import Derived.Test.YtkfeofhifmebkaaGreatDoorDKf
import Derived.Test.YtkfeofhifmebkaaGreatDoorDKg
import Derived.Test.YtkfeofhifmebkaaGreatDoorKA6
set_option maxRecDepth 100000
namespace Go.Ev
open Go Go.Proofs
/-! TopDue: the evaluator's word in each of its environments -/
theorem ArmOk.le {q : Dn} (h : ArmOk q) (h8 : q.lv < 8) : q.A ≤ q.D := by
  have hA := h.A
  have h1 : q.A < 18446744073709551616 := by rw [hA]; exact clampN_lt h.n0
  obtain ⟨c1, c2, c3⟩ := numP_ceil (A := q.A) h8 h1
  have hD := h.D
  unfold dueP at hD
  generalize numP q.A q.lv = N at c1 c2 c3 hD
  by_cases c : mx8 q.lv < N
  · rw [if_pos c] at hD; omega
  · rw [if_neg c, wrapU_eq] at hD
    generalize q.lv = n at *
    rcases lv8 h8 with rfl | rfl | rfl | rfl | rfl | rfl | rfl | rfl <;> simp only [gr8, mx8] at * <;> omega
structure PcOk (q : Dn) (pc : Nat) : Prop where
  fl : (pc = 0 ∧ q.fl < 2) ∨ (pc = 9) ∨ (pc ≠ 0 ∧ 2 ≤ q.fl)
  cp : (pc = 1 → q.cp = 0) ∧ (pc = 2 → q.cp = 1)
section
variable {q : Dn} {base : Nat}
theorem intrD_ok {E : Env} (hg : E.glob = glob0f) (hq : q.Ok) {pc : Nat} (hp : PcOk q pc) {ok : Bool} (hd : DlOk q ok) (hA : ok = true → ArmOk q) {g : FuncId} {x : IX} (hx : intrD pc ok g = some x) {args : List SV} {st : St} {k : SV → St → R} {fb : Unit → R} {out} (h : x.run args st k fb = .ok out) :
    (∃ v st', k v st' = .ok out ∧ CallLands Tryz.prog E q.V base g args st v st') ∨ fb () = .ok out := by
  unfold intrD at hx
  split at hx
  · cases hx; exact checkI_ok hg hq h
  · cases hx; exact helperI_ok hg hq h
  · cases hx; exact smallI_ok hg hq hp.cp h
  · cases hx; exact dlI_ok hg hq hd (.inl rfl) h
  · cases hx; exact dlI_ok hg hq hd (.inr rfl) h
  · cases hx; exact prI_ok hg hq (fun e => (hA e).toPlaceOk) h
  · split at hx
    · cases hx; exact putI_ok hg hq (hA rfl) h
    · cases hx
  · cases hx; exact toI9_ok hg hq h
  · cases hx; exact progI_ok hg hq h
  · exact i2g hg hx h
theorem sfD_ok (hq : q.Ok) {pc : Nat} (hp : PcOk q pc) {ok : Bool} (hd : DlOk q ok) (hA : ok = true → ArmOk q) : EOk Tryz.prog (envD pc ok) q.V ∧ IntrOk Tryz.prog (envD pc ok) q.V base ∧ SelfOk Tryz.prog (envD pc ok) q.V base (sfD pc ok) := by
  have hr : ∀ r ∈ appR (rulesPc pc) (appR (rulesOk ok) rulesD0), RlOk Tryz.prog q.V r := by
    intro r hr
    rw [appR_eq, appR_eq] at hr
    rcases List.mem_append.1 hr with hr | hr
    · exact rulesPc_ok hq hp.fl r hr
    · rcases List.mem_append.1 hr with hr | hr
      · exact rulesOk_ok (fun e => by have := (hA e).n0; omega) r hr
      · exact rulesD0_ok hq r hr
  have h1 : EOk Tryz.prog (envD pc ok) q.V := eokP hr (rngsD_ok hq) (logN_ok hq) (convsD_ok q)
  have h2 : IntrOk Tryz.prog (envD pc ok) q.V base := fun g x hx _ _ _ _ _ hr => intrD_ok rfl hq hp hd hA hx hr
  exact ⟨h1, h2, selfN_ok h1 h2 _⟩
theorem sfR_ok (hq : q.Ok) {due : Bool} {on : Nat} (hT : ToOk q due on) (h2 : W2Ok q) : EOk Tryz.prog (envR due on) q.V ∧ IntrOk Tryz.prog (envR due on) q.V base ∧ SelfOk Tryz.prog (envR due on) q.V base (sfR due on) := by
  have hr : ∀ r ∈ appR (rulesDue due) rulesD0, RlOk Tryz.prog q.V r := by
    intro r hr
    rw [appR_eq] at hr
    rcases List.mem_append.1 hr with hr | hr
    · exact rulesDue_ok hT.due (hT.arm.le hq.lv) r hr
    · exact rulesD0_ok hq r hr
  have h1 : EOk Tryz.prog (envR due on) q.V := eokP hr (rngsD_ok hq) (logN_ok hq) (convsD_ok q)
  have h3 : IntrOk Tryz.prog (envR due on) q.V base := by
    intro g x hx args st k fb out h
    simp only [envR, intrR] at hx
    split at hx
    · cases hx; exact addI_ok rfl hq h
    · cases hx; exact toI_ok rfl hq hT h2 h
    · cases hx; exact afterD_ok (logN_ok hq) h
    · exact i2g rfl hx h
  exact ⟨h1, h3, selfN_ok h1 h3 _⟩
theorem sfQ_ok (hq : q.Ok) (h2 : W2Ok q) : EOk Tryz.prog envQ q.V ∧ IntrOk Tryz.prog envQ q.V base ∧ SelfOk Tryz.prog envQ q.V base sfQ := by
  have h1 : EOk Tryz.prog envQ q.V := eokP (rulesD0_ok hq) (rngsD_ok hq) (logN_ok hq) (convsD_ok q)
  have h3 : IntrOk Tryz.prog envQ q.V base := by
    intro g x hx args st k fb out h
    simp only [envQ, intrQ] at hx
    split at hx
    · cases hx; exact addI_ok rfl hq h
    · cases hx; exact toI2_ok rfl hq h2 h
    · cases hx; exact afterD_ok (logN_ok hq) h
    · exact i2g rfl hx h
  exact ⟨h1, h3, selfN_ok h1 h3 _⟩
end
end Go.Ev
set_option maxRecDepth 100000
namespace Go.Ev
open Go Go.Proofs
/-! TopDue: the machine stands at a told state -/
theorem mkT'_mem : ∀ (l : List (Nat × Nat)) (t : T Nat) (k : T Nat → R), ∃ t', mkT' l t k = k t' ∧ ∀ n a, getT t' n = some a → getT t n = some a ∨ (n, a) ∈ l := by
  intro l
  induction l with
  | nil => intro t k; exact ⟨t, rfl, fun n a h => .inl h⟩
  | cons p l ih =>
    intro t k
    obtain ⟨a, b⟩ := p
    simp only [mkT']
    obtain ⟨t1, h1, h2⟩ := setTK_spec t a (some b) (fun t => mkT' l t k)
    rw [h1]
    obtain ⟨t2, h3, h4⟩ := ih t1 k
    refine ⟨t2, h3, fun n c e => ?_⟩
    rcases h4 n c e with q | q
    · rw [h2] at q
      split at q
      · rename_i g; cases q; subst g; exact .inr (.head _)
      · exact .inl q
    · exact .inr (.tail _ q)
theorem finD_M {ren : List (Nat × Nat)} {ints : List (SInt × SInt)} {kd : Nat} {logs : List (Nat × List SV × Nat)} {aL a : A} {sL st : St} {out} (h : finD ren ints kd logs aL sL a st = .ok out) : ∃ r i, finM ⟨r, i, ints, keepD kd, logs⟩ szP aL sL a st = .ok out := by
  unfold finD at h
  obtain ⟨r, h1, _⟩ := mkT'_mem ren .leaf (fun r => mkT' (swapP ren) .leaf fun i => finM ⟨r, i, ints, keepD kd, logs⟩ szP aL sL a st)
  rw [h1] at h
  obtain ⟨i, h2, _⟩ := mkT'_mem (swapP ren) .leaf (fun i => finM ⟨r, i, ints, keepD kd, logs⟩ szP aL sL a st)
  rw [h2] at h
  exact ⟨r, i, h⟩
theorem f5_nt : Tryz.f5.ntmps = 255 := by kernel_rfl
noncomputable abbrev EP : Env := envD 9 false
theorem cellsP : ∀ t, szP t ≠ 0 → Tryz.prog.cellsOf t = szP t := by
  intro t h
  by_cases g : t = 34
  · subst g; exact cells34
  · exact absurd (by unfold szP; split <;> first | (rename_i q; exact absurd rfl g) | rfl) h
theorem globP : GlobFree EP := globF rfl
theorem zeroP (q : Dn) : q.V 0 = 0 ∧ q.V (logN 0) = 0 := ⟨rfl, by simp [Dn.V, logN]⟩
/-- the machine stands at such a state -/
def AtG (ν : Nat → Int) (base : Nat) (w0 : World) (aL : A) (sL : St) (act : Act) (w : World) : Prop :=
  ∃ σ, Sim Tryz.prog EP ν base σ sL w ∧ RepA ν σ 255 aL act ∧ BaseKept base w0 w
theorem AtG.lands {E : Env} (hg : E.glob = glob0f) {ν : Nat → Int} {base : Nat} {w0 : World} {c : Code} {a a1 : A} {st st1 : St} {e : Ex} (h : Lands Tryz.prog E ν base 255 c Option.none a st e a1 st1) {act : Act} {w : World} (k : AtG ν base w0 a st act w) {n : Nat} {Q : Exit → Act → World → Prop}
    (hQ : ∀ act' w', AtG ν base w0 a1 st1 act' w' → Q e.out act' w') : c.wpIn Fence.wide n Tryz.prog Q act w := by
  obtain ⟨σ, h1, h2, h3⟩ := k
  have h1' : Sim Tryz.prog E ν base σ st w := Sim.env' (E := EP) (E' := E) hg h1
  exact h σ w act Fence.wide n Q h1' h2 rfl (fun σ' w' act' go r => hQ act' w' ⟨σ', Sim.env' (E := E) (E' := EP) hg.symm go.2, r, h3.trans (go.kept h1')⟩)
/-- pieces of code, one behind the other -/
def ChainG (E : Env) (ν : Nat → Int) (base : Nat) : List Code → A → St → A → St → Prop
  | [], a, st, a', st' => a = a' ∧ st = st'
  | c :: l, a, st, a', st' => ∃ a1 st1, Lands Tryz.prog E ν base 255 c Option.none a st .normal a1 st1 ∧ ChainG E ν base l a1 st1 a' st'
theorem runCs_chainG {E : Env} {ν : Nat → Int} {base : Nat} {sf : Self} (hS : SelfOk Tryz.prog E ν base sf) : ∀ {cs : List Code} {a : A} {st : St} {k : A → St → R} {out}, runCs sf 5 cs a st k = .ok out →
    ∃ a' st', k a' st' = .ok out ∧ ChainG E ν base cs a st a' st' := by
  intro cs
  induction cs with
  | nil => intro a st k out h; exact ⟨a, st, h, rfl, rfl⟩
  | cons c cs ih =>
    intro a st k out h
    simp only [runCs] at h
    have h0 := hS.code h; clear h; obtain ⟨e, a1, st1, h, F1, hF1, h1⟩ := h0
    rw [Tryz.func5] at hF1; cases hF1
    rw [f5_nt] at h1
    cases e <;> dsimp only at h <;> try (cases h; done)
    obtain ⟨a', st', h2, h3⟩ := ih h
    exact ⟨a', st', h2, a1, st1, h1, h3⟩
theorem ChainG.wp {E : Env} (hg : E.glob = glob0f) {ν : Nat → Int} {base : Nat} {w0 : World} {n : Nat} {Q : Exit → Act → World → Prop} {rest : Code} : ∀ {cs : List Code} {a : A} {st : St} {a' : A} {st' : St}, ChainG E ν base cs a st a' st' →
    ∀ {act : Act} {w : World}, AtG ν base w0 a st act w → (∀ act' w', AtG ν base w0 a' st' act' w' → rest.wpIn Fence.wide n Tryz.prog Q act' w') → (seqL cs rest).wpIn Fence.wide n Tryz.prog Q act w := by
  intro cs
  induction cs with
  | nil =>
    intro a st a' st' h act w k hr
    obtain ⟨rfl, rfl⟩ := h
    exact hr act w k
  | cons c cs ih =>
    intro a st a' st' h act w k hr
    obtain ⟨a1, st1, h1, h2⟩ := h
    exact wpIn_seq (AtG.lands hg h1 k fun act' w' k' => ih h2 k' hr)
theorem AtG.fin {ν ν' : Nat → Int} {base : Nat} {w0 w : World} {act : Act} {m : MC} {aL a : A} {sL st : St} {out} (h : finM m szP aL sL a st = .ok out) (hi : IntsOk m ν ν') (hl : LogsOk m ν ν') (hz : ν 0 = 0 ∧ ν (logN 0) = 0) (k : AtG ν base w0 a st act w) : AtG ν' base w0 aL sL act w := by
  obtain ⟨σ, k1, k2, k3⟩ := k
  obtain ⟨f1, f2⟩ := finM_ok (P := Tryz.prog) (E := EP) (E' := EP) (base := base) cellsP hi hl hz rfl globP h
  exact ⟨_, f1 σ w k1, f2 σ 255 act k2, k3⟩
theorem codeX {E : Env} {ν : Nat → Int} {base : Nat} {sf : Self} (hS : SelfOk Tryz.prog E ν base sf) {c : Code} {a : A} {st : St} {k : Ex → A → St → R} {out} (h : sf.code 5 c Option.none a st k = .ok out) :
    ∃ e a1 st1, k e a1 st1 = .ok out ∧ Lands Tryz.prog E ν base 255 c Option.none a st e a1 st1 := by
  have h0 := hS.code h; clear h; obtain ⟨e, a1, st1, h, F1, hF1, h1⟩ := h0
  rw [Tryz.func5] at hF1; cases hF1
  rw [f5_nt] at h1
  exact ⟨e, a1, st1, h, h1⟩
theorem CallLands.env {P : Program} {E E' : Env} {ν : Nat → Int} {base : Nat} (hg : E'.glob = E.glob) {f : FuncId} {args : List SV} {st : St} {v : SV} {st' : St} (h : CallLands P E ν base f args st v st') : CallLands P E' ν base f args st v st' :=
  ⟨h.1, fun σ w Args n R hs hA hR => h.2 σ w Args n R (Sim.env' (E := E') (E' := E) hg.symm hs) hA fun σ' w' V go hV => hR σ' w' V ⟨go.1, Sim.env' (E := E) (E' := E') hg go.2⟩ hV⟩
end Go.Ev
set_option maxRecDepth 100000
namespace Go.Ev
open Go Go.Proofs
/-! TopDue: the prologue -/
noncomputable section
structure Di where
  n0 : Nat
  tk : Nat
  fr : Int
  cr : Int
  fl : Nat
  cp : Nat
  pc : Nat
  on : Nat
  ok : Bool
  dl : Nat
  A : Nat
  lv : Nat
  S : Nat
  D : Nat
  ds : List (Int × Int)
  tops : Nat → Int
def Di.at (I : Di) : Nat := if I.fl % 2 = 1 then max I.n0 I.tk else I.n0 + I.tk
structure Di.Ok (I : Di) : Prop where
  u64 : I.n0 < 18446744073709551616 ∧ I.tk < 18446744073709551616
  fr : IntKind.wrap .i64 I.fr = I.fr ∧ IntKind.wrap .i64 I.cr = I.cr
  ds : ∀ d ∈ I.ds, IntKind.wrap .i64 d.1 = d.1 ∧ IntKind.wrap .i64 d.2 = d.2
  fl : (I.fl : Int) = (IntKind.wrap .u64 I.fr).tmod 4
  cp : (I.cp : Int) = (IntKind.wrap .u64 I.cr).tmod 2
  pc : (I.pc = 0 ∧ I.fl < 2 ∧ I.on = 0) ∨ (I.pc = 1 ∧ 2 ≤ I.fl ∧ I.cp = 0 ∧ I.on = 0) ∨ (I.pc = 2 ∧ 2 ≤ I.fl ∧ I.cp = 1 ∧ I.on = 1)
  ok : I.ok = decide (((I.n0 : Nat) : Int) < 18446744073709551615 ∧ ((I.at : Nat) : Int) < 18446744073709551615)
  dl : I.ok = true → I.dl = I.at
  S : I.S < 64
  lv : I.lv < 8
  arm : I.ok = true → I.n0 < 18446744073709551615 ∧ I.dl < 18446744073709551616 ∧ I.A = clampN I.n0 I.dl ∧ (((I.A : Int) - I.n0) / 63 < gr8 I.lv ∧ ∀ j, j < I.lv → ¬ ((I.A : Int) - I.n0) / 63 < gr8 j) ∧ (I.D : Int) = dueP I.A I.lv ∧ (I.S : Int) = numP I.A I.lv % 64
def Di.deed (I : Di) (i : Nat) : Int × Int := (I.ds[i]?).getD (0, 0)
def stepOf (d : Int) : Nat := (1 + (IntKind.wrap .u64 d).tmod 255).toNat
def nu9 (n : Nat) (i : Nat) : Int := if i = 9 then (n : Int) else 0
def dLof (pc : Nat) (ok : Bool) : List SV := match ok with
  | true => match pc with
    | 0 => dL0t
    | 1 => dL1t
    | _ => dL2t
  | false => match pc with
    | 0 => dL0f
    | 1 => dL1f
    | _ => dL2f
/-- the numbers at the start -/
def Di.q0 (I : Di) : Dn where
  tk := I.tk
  fr := I.fr
  cr := I.cr
  fl := I.fl
  cp := I.cp
  n0 := I.n0
  W0 := I.n0
  W1 := I.n0
  dl := I.dl
  A := I.A
  D := I.D
  S := I.S
  step := stepOf (I.deed 0).1
  N := I.n0
  i := 0
  len := I.ds.length
  dt := (I.deed 0).1
  on := I.on
  lv := I.lv
  L := 13
  log := codeL (evsSV (nu9 I.n0) (dLof I.pc I.ok))
  tops := I.tops
end
theorem deed_wrap {I : Di} (h : I.Ok) (i : Nat) : IntKind.wrap .i64 (I.deed i).1 = (I.deed i).1 ∧ IntKind.wrap .i64 (I.deed i).2 = (I.deed i).2 := by
  unfold Di.deed
  cases e : I.ds[i]? with
  | none => exact ⟨rfl, rfl⟩
  | some d => exact h.ds d (List.mem_of_getElem? e)
theorem step_val (d : Int) : ((stepOf d : Nat) : Int) = 1 + (IntKind.wrap .u64 d).tmod 255 := by
  unfold stepOf
  rw [Int.tmod_eq_emod_of_nonneg (wrapU d).1]
  omega
theorem q0_ok {I : Di} (h : I.Ok) : I.q0.Ok := by
  have h3 := step_val (I.deed 0).1
  have h6 := (deed_wrap h 0).1
  obtain ⟨h7, h8⟩ := h.u64
  obtain ⟨h9, h10⟩ := h.fr
  unfold Di.q0
  constructor <;> dsimp only
  · exact ⟨h9, h10, h6⟩
  · exact h.fl
  · exact h.cp
  · exact h3
  · exact ⟨h8, h7, h7⟩
  · omega
  · exact h.S
  · exact h.lv
  · omega
theorem q0_dl {I : Di} (h : I.Ok) : DlOk I.q0 I.ok := by
  unfold Di.q0
  constructor
  · unfold atN; dsimp only; exact h.ok
  · unfold atN; dsimp only; exact h.dl
theorem q0_v9 (I : Di) : I.q0.V 9 = nu9 I.n0 9 := by rw [Dn.v9]; unfold Di.q0; rfl
theorem q0_L (I : Di) : I.q0.L = 13 := by unfold Di.q0; rfl
theorem q0_log (I : Di) : I.q0.log = codeL (evsSV (nu9 I.n0) (dLof I.pc I.ok)) := by unfold Di.q0; rfl
theorem q0_arm {I : Di} (h : I.Ok) (e : I.ok = true) : ArmOk I.q0 := by
  obtain ⟨h1, h2, h3, h4, h5, h6⟩ := h.arm e
  unfold Di.q0
  refine { n0 := ?_, dl := ?_, A := ?_, lv := ?_, D := ?_, S := ?_ } <;> dsimp only
  · exact h1
  · exact h2
  · exact h3
  · exact h4
  · exact h5
  · exact h6
theorem pc_ok {I : Di} (h : I.Ok) : PcOk I.q0 I.pc := by
  unfold Di.q0
  rcases h.pc with ⟨e, g, _⟩ | ⟨e, g, g2, _⟩ | ⟨e, g, g2, _⟩
  · rw [e]; exact ⟨.inl ⟨rfl, g⟩, (fun e => (nomatch e)), (fun e => (nomatch e))⟩
  · rw [e]; exact ⟨.inr (.inr ⟨by decide, g⟩), fun _ => g2, (fun e => (nomatch e))⟩
  · rw [e]; exact ⟨.inr (.inr ⟨by decide, g⟩), (fun e => (nomatch e)), fun _ => g2⟩
theorem pc_ok9 (q : Dn) : PcOk q 9 := ⟨.inr (.inl rfl), (fun e => (nomatch e)), (fun e => (nomatch e))⟩
section
variable {q : Dn} {base : Nat}
theorem memo_ok (hq : q.Ok) {pc : Nat} (hp : PcOk q pc) {ok : Bool} (hd : DlOk q ok) (hA : ok = true → ArmOk q) (r0 : isOkB ((sfD 9 ok).call 18 dG0 dA0S (finC dV0 dB0S)) = true) (r1 : isOkB ((sfD 9 ok).call 18 dG1 dA1S (finC dV1 dB1S)) = true) {B : St} (r2 : isOkB ((sfD pc ok).call 14 dG2 dA2S (finC dV2 B)) = true) :
    SelfOk Tryz.prog (envD pc ok) q.V base (selfStep (envD pc ok) (memoSelf 18 dG0 dA0S dV0 dB0S (memoSelf 18 dG1 dA1S dV1 dB1S (memoSelf 14 dG2 dA2S dV2 B (sfD pc ok))))) := by
  obtain ⟨hE, hI, hS⟩ := sfD_ok hq hp hd hA (base := base)
  obtain ⟨_, _, hS9⟩ := sfD_ok hq (pc_ok9 q) hd hA (base := base)
  have c0 := CallLands.env (E := envD 9 ok) (E' := envD pc ok) rfl (call_lands_of hS9 r0)
  have c1 := CallLands.env (E := envD 9 ok) (E' := envD pc ok) rfl (call_lands_of hS9 r1)
  have c2 := call_lands_of hS r2
  exact selfStep_ok hE hI (memoSelf_ok (memoSelf_ok (memoSelf_ok hS c2) c1) c0)
end
theorem evs_len {l : List SV} {ν ν' : Nat → Int} (h : ν 9 = ν' 9) (hl : l = dL0t ∨ l = dL1t ∨ l = dL2t ∨ l = dL0f ∨ l = dL1f ∨ l = dL2f) : evsSV ν l = evsSV ν' l ∧ l.length / 5 = 13 := by
  have e0 : evsSV ν dL0t = evsSV ν' dL0t := by simp only [dL0t, evsSV, SInt.val, h]
  have e1 : evsSV ν dL0f = evsSV ν' dL0f := by simp only [dL0f, evsSV, SInt.val, h]
  rcases hl with rfl | rfl | rfl | rfl | rfl | rfl
  · exact ⟨e0, by kernel_rfl⟩
  · exact ⟨e0, by kernel_rfl⟩
  · exact ⟨e0, by kernel_rfl⟩
  · exact ⟨e1, by kernel_rfl⟩
  · exact ⟨e1, by kernel_rfl⟩
  · exact ⟨e1, by kernel_rfl⟩
theorem dLof_mem (pc : Nat) (ok : Bool) : dLof pc ok = dL0t ∨ dLof pc ok = dL1t ∨ dLof pc ok = dL2t ∨ dLof pc ok = dL0f ∨ dLof pc ok = dL1f ∨ dLof pc ok = dL2f := by
  unfold dLof
  split <;> split <;> simp
theorem set_logs (I : Di) {r i : T Nat} {ints : List (SInt × SInt)} {kp : Nat → Bool} : LogsOk ⟨r, i, ints, kp, [(0, dLof I.pc I.ok, 5000)]⟩ I.q0.V I.q0.V := by
  obtain ⟨e1, e2⟩ := evs_len (q0_v9 I) (dLof_mem I.pc I.ok)
  intro p hp
  have := List.mem_singleton.1 hp
  subst this
  refine ⟨?_, ?_⟩
  · dsimp only
    rw [show (5000 : Nat) = 5000 + 0 from rfl, Dn.vL _ (by decide), e2, (zeroP _).1, q0_L]; rfl
  · dsimp only
    rw [show logN 5000 = 1005000 from rfl, Dn.vlog, (zeroP _).2, evsOf_zero, List.nil_append, e1, q0_log]
    exact evsOf_code _
theorem pro1 {I : Di} (h : I.Ok) (base : Nat) : ∃ a1 s1, ChainG (envD 9 I.ok) I.q0.V base [ddAt 0, ddAt 1, ddAt 2, ddAt 3, ddAt 4] dd0A ⟨.leaf, 0⟩ a1 s1 ∧ ∀ w0 act w, AtG I.q0.V base w0 a1 s1 act w → AtG I.q0.V base w0 dMA dMS act w := by
  have hS := (sfD_ok (q0_ok h) (pc_ok9 _) (q0_dl h) (fun e => q0_arm h e) (base := base)).2.2
  have h0 : isOkB (runCs (sfD 9 I.ok) 5 [ddAt 0, ddAt 1, ddAt 2, ddAt 3, ddAt 4] dd0A ⟨.leaf, 0⟩ (finD dMR [] 0 [] dMA dMS)) = true := by
    cases I.ok
    · exact run_midF
    · exact run_midT
  generalize sfD 9 I.ok = sf at hS h0
  obtain ⟨out, ho⟩ := isOkB_ok h0
  obtain ⟨a2, s2, h2, hc⟩ := runCs_chainG hS ho
  obtain ⟨r, i, hf⟩ := finD_M h2
  exact ⟨a2, s2, hc, fun w0 act w k => k.fin hf ⟨fun p hp => (by cases hp), fun _ _ => rfl⟩ (fun p hp => (by cases hp)) (zeroP _)⟩
/-- where the loop may stand -/
inductive Kd where
  | nv | r0 | r1 | d0 | d1
noncomputable def Kd.A : Kd → Go.Ev.A
  | .nv => hNvA
  | .r0 => hR0A
  | .r1 => hR1A
  | .d0 => hD0A
  | .d1 => hD1A
noncomputable def Kd.S : Kd → St
  | .nv => hNvS
  | .r0 => hR0S
  | .r1 => hR1S
  | .d0 => hD0S
  | .d1 => hD1S
def Di.k0 (I : Di) : Kd := match I.ok with
  | true => match I.pc with
    | 0 => .r0
    | 1 => .r0
    | _ => .r1
  | false => .nv
theorem set0 {I : Di} (h : I.on = 0) : ∀ p ∈ setD0, p.1.val I.q0.V = p.2.val I.q0.V := by
  intro p hp
  simp only [setD0, at2, List.mem_cons, List.not_mem_nil, or_false] at hp
  rcases hp with rfl | rfl | rfl | rfl | rfl | rfl <;> simp only [SInt.val]
  · rw [show (5000 : Nat) = 5000 + 0 from rfl, Dn.vL _ (by decide), q0_L]; rfl
  · rw [Dn.v9, Dn.v20]; unfold Di.q0; rfl
  · rw [Dn.v9, Dn.v10]; unfold Di.q0; rfl
  · rw [Dn.v9, Dn.v11]; unfold Di.q0; rfl
  · rw [Dn.v30]; unfold Di.q0; rfl
  · rw [Dn.v43]; unfold Di.q0; dsimp only; rw [h]; rfl
theorem set1 {I : Di} (h : I.cp = 0) (h2 : I.on = 0) : ∀ p ∈ setD1, p.1.val I.q0.V = p.2.val I.q0.V := by
  intro p hp
  simp only [setD1, at2, List.mem_cons, List.not_mem_nil, or_false] at hp
  rcases hp with rfl | rfl | rfl | rfl | rfl | rfl | rfl <;> simp only [SInt.val]
  · rw [show (5000 : Nat) = 5000 + 0 from rfl, Dn.vL _ (by decide), q0_L]; rfl
  · rw [Dn.v9, Dn.v20]; unfold Di.q0; rfl
  · rw [Dn.v9, Dn.v10]; unfold Di.q0; rfl
  · rw [Dn.v9, Dn.v11]; unfold Di.q0; rfl
  · rw [Dn.v30]; unfold Di.q0; rfl
  · rw [Dn.v43, Dn.v8]; unfold Di.q0; dsimp only; rw [h, h2]
  · rw [Dn.v8]; unfold Di.q0; dsimp only; rw [h]; rfl
theorem set2 {I : Di} (h : I.cp = 1) (h2 : I.on = 1) : ∀ p ∈ setD2, p.1.val I.q0.V = p.2.val I.q0.V := by
  intro p hp
  simp only [setD2, at2, List.mem_cons, List.not_mem_nil, or_false] at hp
  rcases hp with rfl | rfl | rfl | rfl | rfl | rfl | rfl <;> simp only [SInt.val]
  · rw [show (5000 : Nat) = 5000 + 0 from rfl, Dn.vL _ (by decide), q0_L]; rfl
  · rw [Dn.v9, Dn.v20]; unfold Di.q0; rfl
  · rw [Dn.v9, Dn.v10]; unfold Di.q0; rfl
  · rw [Dn.v9, Dn.v11]; unfold Di.q0; rfl
  · rw [Dn.v30]; unfold Di.q0; rfl
  · rw [Dn.v43, Dn.v8]; unfold Di.q0; dsimp only; rw [h, h2]
  · rw [Dn.v8]; unfold Di.q0; dsimp only; rw [h]; rfl
theorem pro2_of {I : Di} {E : Env} {base : Nat} {sf : Self} (hS : SelfOk Tryz.prog E I.q0.V base sf) {R : List (Nat × Nat)} {ints : List (SInt × SInt)} {hA : A} {hSt : St} {l : List SV} (hl : l = dLof I.pc I.ok) (run : isOkB (runCs sf 5 dPro dMA dMS (finD R ints 0 [(0, l, 5000)] hA hSt)) = true)
    (hi : ∀ p ∈ ints, p.1.val I.q0.V = p.2.val I.q0.V) : ∃ a1 s1, ChainG E I.q0.V base dPro dMA dMS a1 s1 ∧ ∀ w0 act w, AtG I.q0.V base w0 a1 s1 act w → AtG I.q0.V base w0 hA hSt act w := by
  rw [hl] at run
  obtain ⟨out, ho⟩ := isOkB_ok run
  obtain ⟨a2, s2, h2, hc⟩ := runCs_chainG hS ho
  obtain ⟨r, i, hf⟩ := finD_M h2
  exact ⟨a2, s2, hc, fun w0 act w k => k.fin hf ⟨hi, fun _ _ => rfl⟩ (set_logs I) (zeroP _)⟩
theorem k0_t0 {I : Di} (h1 : I.ok = true) (h2 : I.pc = 0) : I.k0 = .r0 := by unfold Di.k0; rw [h1, h2]; rfl
theorem k0_t1 {I : Di} (h1 : I.ok = true) (h2 : I.pc = 1) : I.k0 = .r0 := by unfold Di.k0; rw [h1, h2]; rfl
theorem k0_t2 {I : Di} (h1 : I.ok = true) (h2 : I.pc = 2) : I.k0 = .r1 := by unfold Di.k0; rw [h1, h2]; rfl
theorem k0_f {I : Di} (h1 : I.ok = false) : I.k0 = .nv := by unfold Di.k0; rw [h1]
theorem r0_A : Kd.A .r0 = hR0A ∧ Kd.S .r0 = hR0S := ⟨rfl, rfl⟩
theorem r1_A : Kd.A .r1 = hR1A ∧ Kd.S .r1 = hR1S := ⟨rfl, rfl⟩
theorem nv_A : Kd.A .nv = hNvA ∧ Kd.S .nv = hNvS := ⟨rfl, rfl⟩
theorem dLof_eq (n : Nat) (b : Bool) {pc : Nat} {ok : Bool} (h1 : pc = n) (h2 : ok = b) : dLof n b = dLof pc ok := by rw [h1, h2]
theorem pro2 {I : Di} (h : I.Ok) (base : Nat) : ∃ E, E.glob = glob0f ∧ ∃ a1 s1, ChainG E I.q0.V base dPro dMA dMS a1 s1 ∧ ∀ w0 act w, AtG I.q0.V base w0 a1 s1 act w → AtG I.q0.V base w0 I.k0.A I.k0.S act w := by
  have hq := q0_ok h
  have hp := pc_ok h
  have hd := q0_dl h
  have hA : I.ok = true → ArmOk I.q0 := fun e => q0_arm h e
  refine ⟨envD I.pc I.ok, rfl, ?_⟩
  cases ho : I.ok with
  | true =>
    rw [ho] at hd hA
    rcases h.pc with ⟨e, g, g2⟩ | ⟨e, g, g2, g3⟩ | ⟨e, g, g2, g3⟩
    · rw [k0_t0 ho e, r0_A.1, r0_A.2, e]; rw [e] at hp
      exact pro2_of (memo_ok hq hp hd hA run_d0T run_d1T run_d0t) (dLof_eq 0 true e ho) run_s0t (set0 g2)
    · rw [k0_t1 ho e, r0_A.1, r0_A.2, e]; rw [e] at hp
      exact pro2_of (memo_ok hq hp hd hA run_d0T run_d1T run_d1t) (dLof_eq 1 true e ho) run_s1t (set1 g2 g3)
    · rw [k0_t2 ho e, r1_A.1, r1_A.2, e]; rw [e] at hp
      exact pro2_of (memo_ok hq hp hd hA run_d0T run_d1T run_d2t) (dLof_eq 2 true e ho) run_s2t (set2 g2 g3)
  | false =>
    rw [ho] at hd hA
    rcases h.pc with ⟨e, g, g2⟩ | ⟨e, g, g2, g3⟩ | ⟨e, g, g2, g3⟩
    · rw [k0_f ho, nv_A.1, nv_A.2, e]; rw [e] at hp
      exact pro2_of (memo_ok hq hp hd hA run_d0F run_d1F run_d0f) (dLof_eq 0 false e ho) run_s0f (set0 g2)
    · rw [k0_f ho, nv_A.1, nv_A.2, e]; rw [e] at hp
      exact pro2_of (memo_ok hq hp hd hA run_d0F run_d1F run_d1f) (dLof_eq 1 false e ho) run_s1f (set1 g2 g3)
    · rw [k0_f ho, nv_A.1, nv_A.2, e]; rw [e] at hp
      exact pro2_of (memo_ok hq hp hd hA run_d0F run_d1F run_d2f) (dLof_eq 2 false e ho) run_s2f (set2 g2 g3)
end Go.Ev
set_option maxRecDepth 100000
namespace Go.Ev
open Go Go.Proofs
/-! TopDue: the regions that look at an act -/
theorem op_step {P : Program} {o : Oper} {act : Act} {w w' : World} {V : Value} {F : Fence} {n : Nat} {K : Act → World → Prop} {Q : Exit → Act → World → Prop} (hF : OkF F) (hd : ∀ c, o.op ≠ .defer c) (h : (execOp act.eval o).run P w = .ok (.value V) w') (hK : K (act.put o.dst V) w') : o.wpIn F n P act w K Q := by
  refine ⟨fun f _ => hF.fn f, ?_⟩
  rw [Oper.semAt_eq _ _ _ hd, h]
  exact hK
theorem list_step {P : Program} {ops : Array Oper} {rest : List Oper} {o : Oper} {act : Act} {w w' : World} {V : Value} {F : Fence} {n : Nat} {Q : Exit → Act → World → Prop} (hF : OkF F) (hg : o.guard = none) (hd : ∀ c, o.op ≠ .defer c) (h : (execOp act.eval o).run P w = .ok (.value V) w') (hK : wpListIn F n P ops Q rest (act.put o.dst V) w') : wpListIn F n P ops Q (o :: rest) act w := by
  simp only [wpListIn, hg, Region.wanted, if_true]
  exact op_step hF hd h hK
theorem put_at (act : Act) (t : Nat) (V : Value) (h : t < act.tmps.size) : (act.put (some t) V).eval (.tmp t) = V := by
  simp [Act.put, Act.eval, h]
theorem put_ne (act : Act) (t u : Nat) (V : Value) (h : t ≠ u) : (act.put (some t) V).eval (.tmp u) = act.eval (.tmp u) := by
  simp [Act.put, Act.eval, Array.getElem?_setIfInBounds_ne h]
theorem put_size (act : Act) (t : Nat) (V : Value) : (act.put (some t) V).tmps.size = act.tmps.size := by
  simp [Act.put]
theorem RepA.dead {ν : Nat → Int} {σ : Sg} {nt : Nat} {a : A} {act : Act} (k : RepA ν σ nt a act) {t : Nat} (h : (flat a.tmps)[t]? = some .dead) (V : Value) : RepA ν σ nt a (act.put (some t) V) := by
  refine ⟨⟨by rw [put_size]; exact k.tmps.1, fun u hu => ?_⟩, k.defers⟩
  obtain ⟨s, W, h1, h2, h3⟩ := k.tmps.2 u hu
  by_cases e : t = u
  · subst e
    have hl : t < act.tmps.size := by rw [k.tmps.1]; exact hu
    exact ⟨s, V, h1, by simp [Act.put, hl], .inl (by rw [h] at h1; exact (Option.some.inj h1).symm)⟩
  · exact ⟨s, W, h1, by simp [Act.put, Array.getElem?_setIfInBounds_ne e, h2], h3⟩

noncomputable def opsP : Code → List Oper
  | .region _ ops _ => ops.toList
  | _ => []
noncomputable def o20 (j : Nat) : Oper := ((opsP dd20)[j]?).getD default
noncomputable def o21 (j : Nat) : Oper := ((opsP dd21)[j]?).getD default
theorem ddLoop_eq : ddLoop = .seq dd18 (.seq (.block 1 ddIn) dd19) := by kernel_rfl
theorem ddIn_eq : ddIn = .seq dd20 (.seq (.seq dd21 ddC21) ddRest) := by kernel_rfl
theorem dd20_eq : dd20 = .region 20 [o20 0, o20 1, o20 2, o20 3, o20 4, o20 5, o20 6, o20 7, o20 8].toArray false := by kernel_rfl
theorem dd21_eq : dd21 = .region 21 dOps21.toArray false := by kernel_rfl
theorem dOps21_eq : dOps21 = o21 0 :: o21 1 :: o21 2 :: o21 3 :: o21 4 :: o21 5 :: dOps21d := by kernel_rfl
def opIs (o : Oper) (op : Op) (t : Tmp) : Prop := o.op = op ∧ o.guard = Option.none ∧ o.dst = some t
theorem o20_0 : opIs (o20 0) (.move (.tmp 4)) 155 := ⟨by kernel_rfl, by kernel_rfl, by kernel_rfl⟩
theorem o20_1 : opIs (o20 1) (.move (.tmp 21)) 156 := ⟨by kernel_rfl, by kernel_rfl, by kernel_rfl⟩
theorem o20_2 : opIs (o20 2) (.indexAddr 54 (.tmp 155) (.tmp 156)) 157 := ⟨by kernel_rfl, by kernel_rfl, by kernel_rfl⟩
theorem o20_3 : opIs (o20 3) (.fieldAddr 62 (.tmp 157) 1) 158 := ⟨by kernel_rfl, by kernel_rfl, by kernel_rfl⟩
theorem o20_4 : opIs (o20 4) (.load 3 (.tmp 158)) 159 := ⟨by kernel_rfl, by kernel_rfl, by kernel_rfl⟩
theorem o20_5 : opIs (o20 5) (.convert 3 25 (.tmp 159)) 160 := ⟨by kernel_rfl, by kernel_rfl, by kernel_rfl⟩
theorem o20_6 : ∃ y, opIs (o20 6) (.binOp .rem 25 (.tmp 160) (.const (.int .u64 2)) y) 161 := ⟨25, by kernel_rfl, by kernel_rfl, by kernel_rfl⟩
theorem o20_7 : opIs (o20 7) (.convert 25 3 (.tmp 161)) 162 := ⟨by kernel_rfl, by kernel_rfl, by kernel_rfl⟩
theorem o20_8 : opIs (o20 8) (.assign (.tmp 162)) 22 := ⟨by kernel_rfl, by kernel_rfl, by kernel_rfl⟩
theorem o21_0 : opIs (o21 0) (.move (.tmp 11)) 163 := ⟨by kernel_rfl, by kernel_rfl, by kernel_rfl⟩
theorem o21_1 : opIs (o21 1) (.move (.tmp 4)) 164 := ⟨by kernel_rfl, by kernel_rfl, by kernel_rfl⟩
theorem o21_2 : opIs (o21 2) (.move (.tmp 21)) 165 := ⟨by kernel_rfl, by kernel_rfl, by kernel_rfl⟩
theorem o21_3 : opIs (o21 3) (.indexAddr 54 (.tmp 164) (.tmp 165)) 166 := ⟨by kernel_rfl, by kernel_rfl, by kernel_rfl⟩
theorem o21_4 : opIs (o21 4) (.fieldAddr 62 (.tmp 166) 0) 167 := ⟨by kernel_rfl, by kernel_rfl, by kernel_rfl⟩
theorem o21_5 : opIs (o21 5) (.load 3 (.tmp 167)) 168 := ⟨by kernel_rfl, by kernel_rfl, by kernel_rfl⟩
def chkTy (o : Option TyI) (n : Nat) (b : Bool) : Bool := match o with
  | some i => match Nat.beq i.size n with
    | true => match b with
      | true => i.agg
      | false => match i.agg with
        | true => false
        | false => true
    | false => false
  | Option.none => false
theorem chkTy_ok {o : Option TyI} {n : Nat} {b : Bool} (h : chkTy o n b = true) : ∃ i, o = some i ∧ i.size = n ∧ i.agg = b := by
  unfold chkTy at h
  split at h
  · rename_i i
    split at h
    · rename_i g
      refine ⟨i, rfl, Nat.eq_of_beq_eq_true g, ?_⟩
      cases b
      · dsimp only at h
        split at h
        · cases h
        · rename_i g2; exact g2
      · exact h
    · cases h
  · cases h
theorem ty62 : ∃ i, getT tyT 62 = some i ∧ i.size = 2 ∧ i.agg = true := chkTy_ok (by kernel_rfl)
theorem ty3 : ∃ i, getT tyT 3 = some i ∧ i.size = 1 ∧ i.agg = false := chkTy_ok (by kernel_rfl)
def chkF (o : Option TypeDesc) (f off t : Nat) : Bool := match o with
  | some (.struct fs) => match fs[f]? with
    | some d => match Nat.beq d.offset off with
      | true => Nat.beq d.type t
      | false => false
    | Option.none => false
  | _ => false
theorem chkF_ok {o : Option TypeDesc} {f off t : Nat} (h : chkF o f off t = true) : ∃ fs d, o = some (.struct fs) ∧ fs[f]? = some d ∧ d.offset = off ∧ d.type = t := by
  unfold chkF at h
  split at h
  · rename_i fs
    split at h
    · rename_i d hd
      split at h
      · rename_i g; exact ⟨fs, d, rfl, hd, Nat.eq_of_beq_eq_true g, Nat.eq_of_beq_eq_true h⟩
      · cases h
    · cases h
  · cases h
theorem fld1 : ∃ fs d, Tryz.prog.underlying 62 = some (.struct fs) ∧ fs[1]? = some d ∧ d.offset = 1 ∧ d.type = 3 := chkF_ok (by kernel_rfl)
theorem fld0 : ∃ fs d, Tryz.prog.underlying 62 = some (.struct fs) ∧ fs[0]? = some d ∧ d.offset = 0 ∧ d.type = 3 := chkF_ok (by kernel_rfl)
/-- an act's field is read: five operations -/
theorem readF {E : Env} (hty : E.ty = tyT) {ν : Nat → Int} (hE : EOk Tryz.prog E ν) {F : Fence} (hF : OkF F) {n : Nat} {ops : Array Oper} {oa ob oc od oe : Oper} {rest : List Oper} {ta f off : Nat}
    (h0 : opIs oa (.move (.tmp 4)) ta) (h1 : opIs ob (.move (.tmp 21)) (ta + 1)) (h2 : opIs oc (.indexAddr 54 (.tmp ta) (.tmp (ta + 1))) (ta + 2)) (h3 : opIs od (.fieldAddr 62 (.tmp (ta + 2)) f) (ta + 3)) (h4 : opIs oe (.load 3 (.tmp (ta + 3))) (ta + 4))
    (hfl : ∃ fs d, Tryz.prog.underlying 62 = some (.struct fs) ∧ fs[f]? = some d ∧ d.offset = off ∧ d.type = 3)
    {act : Act} {w : World} {b o l c i : Nat} {V : Value} (hn : act.tmps.size = 255) (h15 : 30 < ta) (h115 : ta + 4 < 255) (e11 : act.eval (.tmp 4) = .slice (some ⟨b, o, none⟩) l c) (e12 : act.eval (.tmp 21) = .int .i64 (i : Int)) (hi : i < l)
    (hc : w.cell? ⟨b, o + i * 2 + off, none⟩ = some V) {Q : Exit → Act → World → Prop}
    (hQ : ∀ V0 V1 V2 V3, wpListIn F n Tryz.prog ops Q rest (((((act.put (some ta) V0).put (some (ta + 1)) V1).put (some (ta + 2)) V2).put (some (ta + 3)) V3).put (some (ta + 4)) V) w) : wpListIn F n Tryz.prog ops Q (oa :: ob :: oc :: od :: oe :: rest) act w := by
  have hu : Tryz.prog.underlying 54 = some (.slice 62) := by kernel_rfl
  obtain ⟨i34, h34, s34, a34⟩ := ty62
  rw [← hty] at h34
  obtain ⟨it, hit, st, at'⟩ := ty3
  rw [← hty] at hit
  obtain ⟨fs, fd, hu34, hf, hfo, hft⟩ := hfl
  have hit' : getT E.ty fd.type = some it := by rw [hft]; exact hit
  refine list_step (w' := w) hF h0.2.1 (fun c e => by rw [h0.1] at e; cases e) (V := act.eval (.tmp 4)) (by simp [execOp, h0.1]) ?_
  rw [h0.2.2]
  refine list_step (w' := w) hF h1.2.1 (fun c e => by rw [h1.1] at e; cases e) (V := act.eval (.tmp 21)) (by simp [execOp, h1.1, put_ne _ _ _ _ (show ta ≠ 21 by omega)]) ?_
  rw [h1.2.2]
  refine list_step (w' := w) hF h2.2.1 (fun c e => by rw [h2.1] at e; cases e) (V := .pointer (some ⟨b, o + i * 2, none⟩)) ?_ ?_
  · have q1 : ((act.put (some ta) (act.eval (.tmp 4))).put (some (ta + 1)) (act.eval (.tmp 21))).eval (.tmp ta) = .slice (some ⟨b, o, none⟩) l c := by
      rw [put_ne _ _ _ _ (by omega), put_at _ _ _ (by omega), e11]
    have q2 : ((act.put (some ta) (act.eval (.tmp 4))).put (some (ta + 1)) (act.eval (.tmp 21))).eval (.tmp (ta + 1)) = .int .i64 (i : Int) := by
      rw [put_at _ _ _ (by rw [put_size]; omega), e12]
    have q3 : (Instr.indexAt 54 (.slice (some ⟨b, o, none⟩) l c) (.int .i64 (i : Int))).run Tryz.prog w = .ok (.pointer (some ⟨b, o + i * 2, none⟩)) w := by
      simp [Instr.indexAt, asIntOf, run_underlying hu, hE.size h34, s34, hi, Addr.add_eq]
    simp [execOp, h2.1, q1, q2, q3]
  rw [h2.2.2]
  refine list_step (w' := w) hF h3.2.1 (fun c e => by rw [h3.1] at e; cases e) (V := .pointer (some ⟨b, o + i * 2 + off, none⟩)) ?_ ?_
  · have q1 : (((act.put (some ta) (act.eval (.tmp 4))).put (some (ta + 1)) (act.eval (.tmp 21))).put (some (ta + 2)) (.pointer (some ⟨b, o + i * 2, none⟩))).eval (.tmp (ta + 2)) = .pointer (some ⟨b, o + i * 2, none⟩) := by
      rw [put_at _ _ _ (by rw [put_size, put_size]; omega)]
    have hne : it.size ≠ 0 := by omega
    simp [execOp, h3.1, q1, Instr.fieldAt, run_underlying hu34, hf, Instr.sureAddr, fieldPlace, hE.size hit', hne, Addr.add_eq, hfo]
  rw [h3.2.2]
  refine list_step (w' := w) hF h4.2.1 (fun c e => by rw [h4.1] at e; cases e) (V := V) ?_ ?_
  · have q1 : ((((act.put (some ta) (act.eval (.tmp 4))).put (some (ta + 1)) (act.eval (.tmp 21))).put (some (ta + 2)) (.pointer (some ⟨b, o + i * 2, none⟩))).put (some (ta + 3)) (.pointer (some ⟨b, o + i * 2 + off, none⟩))).eval (.tmp (ta + 3)) = .pointer (some ⟨b, o + i * 2 + off, none⟩) := by
      rw [put_at _ _ _ (by rw [put_size, put_size, put_size]; omega)]
    have hlv : (loadVar 3 ⟨b, o + i * 2 + off, none⟩).run Tryz.prog w = .ok V w := by simp [loadVar, hE.isAgg hit, at', hc]
    simp [execOp, h4.1, q1, Instr.loadAt, Instr.sureAddr, hlv]
  rw [h4.2.2]
  exact hQ _ _ _ _
/-- which CPU is picked -/
def cpuOf (d : Int) : Nat := ((IntKind.wrap .u64 d).tmod 2).toNat
theorem cpu_val (d : Int) : ((cpuOf d : Nat) : Int) = (IntKind.wrap .u64 d).tmod 2 ∧ cpuOf d < 2 := by
  unfold cpuOf
  rw [Int.tmod_eq_emod_of_nonneg (wrapU d).1]
  omega
theorem reg20D {E : Env} (hty : E.ty = tyT) {ν : Nat → Int} (hE : EOk Tryz.prog E ν) {n : Nat} {act : Act} {w : World} {b o l c i : Nat} {d : Int} (hn : act.tmps.size = 255) (e11 : act.eval (.tmp 4) = .slice (some ⟨b, o, none⟩) l c) (e12 : act.eval (.tmp 21) = .int .i64 (i : Int)) (hi : i < l)
    (hc : w.cell? ⟨b, o + i * 2 + 1, none⟩ = some (.int .i64 d)) {Q : Exit → Act → World → Prop}
    (hQ : ∀ V0 V1 V2 V3 V4 V5 V6 V7, Q .normal (((((((((act.put (some 155) V0).put (some 156) V1).put (some 157) V2).put (some 158) V3).put (some 159) V4).put (some 160) V5).put (some 161) V6).put (some 162) V7).put (some 22) (.int .i64 (cpuOf d : Int))) w) : dd20.wpIn Fence.wide n Tryz.prog Q act w := by
  obtain ⟨y6, h6⟩ := o20_6
  have h5 := o20_5
  have h7 := o20_7
  have h8 := o20_8
  obtain ⟨c1, c2⟩ := cpu_val d
  have hu3 : Tryz.prog.underlying 3 = some (.int .i64) := by kernel_rfl
  have hu25 : Tryz.prog.underlying 25 = some (.int .u64) := by kernel_rfl
  rw [dd20_eq]
  refine wpIn_region_lit ?_
  refine readF hty hE (.inl rfl) (ta := 155) o20_0 o20_1 o20_2 o20_3 o20_4 fld1 hn (by decide) (by decide) e11 e12 hi hc (fun V0 V1 V2 V3 => ?_)
  generalize hA : (((((act.put (some 155) V0).put (some 156) V1).put (some 157) V2).put (some 158) V3).put (some 159) (.int .i64 d)) = A1
  have s1 : A1.tmps.size = 255 := by rw [← hA]; simp only [put_size]; exact hn
  have a159 : A1.eval (.tmp 159) = .int .i64 d := by rw [← hA, put_at _ _ _ (by simp only [put_size]; omega)]
  refine list_step (w' := w) (.inl rfl) h5.2.1 (fun c e => by rw [h5.1] at e; cases e) (V := .int .u64 (IntKind.wrap .u64 d)) ?_ ?_
  · have hcv : (convert 3 25 (.int .i64 d)).run Tryz.prog w = .ok (.int .u64 (IntKind.wrap .u64 d)) w := by
      simp [convert, run_underlying hu3, run_underlying hu25, Conv.intToInt]
    simp [execOp, h5.1, a159, hcv]
  rw [h5.2.2]
  refine list_step (w' := w) (.inl rfl) h6.2.1 (fun c e => by rw [h6.1] at e; cases e) (V := .int .u64 (cpuOf d : Int)) ?_ ?_
  · have q1 : (A1.put (some 160) (.int .u64 (IntKind.wrap .u64 d))).eval (.tmp 160) = .int .u64 (IntKind.wrap .u64 d) := by rw [put_at _ _ _ (by omega)]
    obtain ⟨V, r1, r2⟩ := symRem (P := Tryz.prog) (ν := ν) (k := .u64) (a := IntKind.wrap .u64 d) (b := 2) (s := .lit (cpuOf d : Int)) (by decide) (by simp only [SInt.val]; exact c1)
    have r2 := r2 (fun _ => none)
    simp only [Rep, SInt.val] at r2
    subst r2
    have r1' : (binOp .rem 25 (.int .u64 (IntKind.wrap .u64 d)) (.int .u64 2)).run Tryz.prog w = .ok (.int .u64 (cpuOf d : Int)) w := r1 w
    have q2 : ∀ a : Act, a.eval (.const (.int .u64 2)) = .int .u64 2 := fun a => rfl
    simp [execOp, h6.1, q1, q2, eqGuard_int, r1']
  rw [h6.2.2]
  refine list_step (w' := w) (.inl rfl) h7.2.1 (fun c e => by rw [h7.1] at e; cases e) (V := .int .i64 (cpuOf d : Int)) ?_ ?_
  · have q1 : ((A1.put (some 160) (.int .u64 (IntKind.wrap .u64 d))).put (some 161) (.int .u64 (cpuOf d : Int))).eval (.tmp 161) = .int .u64 (cpuOf d : Int) := by rw [put_at _ _ _ (by rw [put_size]; omega)]
    have hcv : (convert 25 3 (.int .u64 (cpuOf d : Int))).run Tryz.prog w = .ok (.int .i64 (cpuOf d : Int)) w := by
      have hw := wrap_i (n := (cpuOf d : Int)) (by omega) (by omega)
      generalize (cpuOf d : Int) = x at hw ⊢
      simp [convert, run_underlying hu3, run_underlying hu25, Conv.intToInt, hw]
    simp [execOp, h7.1, q1, hcv]
  rw [h7.2.2]
  refine list_step (w' := w) (.inl rfl) h8.2.1 (fun c e => by rw [h8.1] at e; cases e) (V := .int .i64 (cpuOf d : Int)) ?_ ?_
  · have q1 : (((A1.put (some 160) (.int .u64 (IntKind.wrap .u64 d))).put (some 161) (.int .u64 (cpuOf d : Int))).put (some 162) (.int .i64 (cpuOf d : Int))).eval (.tmp 162) = .int .i64 (cpuOf d : Int) := by rw [put_at _ _ _ (by rw [put_size, put_size]; omega)]
    simp [execOp, h8.1, q1]
  rw [h8.2.2]
  simp only [wpListIn]
  rw [← hA]
  exact hQ _ _ _ _ _ _ _ _
/-- the act's ticks -/
theorem reg21D {E : Env} (hty : E.ty = tyT) {ν : Nat → Int} (hE : EOk Tryz.prog E ν) {n : Nat} {act : Act} {w : World} {b o l c i : Nat} {d : Int} {V11 : Value} (hn : act.tmps.size = 255) (e1 : act.eval (.tmp 11) = V11) (e11 : act.eval (.tmp 4) = .slice (some ⟨b, o, none⟩) l c) (e12 : act.eval (.tmp 21) = .int .i64 (i : Int)) (hi : i < l)
    (hc : w.cell? ⟨b, o + i * 2 + 0, none⟩ = some (.int .i64 d)) {Q : Exit → Act → World → Prop}
    (hQ : ∀ V0 V1 V2 V3, wpListIn Fence.wide n Tryz.prog dOps21.toArray Q dOps21d ((((((act.put (some 163) V11).put (some 164) V0).put (some 165) V1).put (some 166) V2).put (some 167) V3).put (some 168) (.int .i64 d)) w) : dd21.wpIn Fence.wide n Tryz.prog Q act w := by
  have h0 := o21_0
  rw [dd21_eq]
  refine wpIn_region_lit ?_
  rw [show wpListIn Fence.wide n Tryz.prog dOps21.toArray Q dOps21 act w = wpListIn Fence.wide n Tryz.prog dOps21.toArray Q (o21 0 :: o21 1 :: o21 2 :: o21 3 :: o21 4 :: o21 5 :: dOps21d) act w from congrArg (fun l => wpListIn Fence.wide n Tryz.prog dOps21.toArray Q l act w) dOps21_eq]
  refine list_step (w' := w) (.inl rfl) h0.2.1 (fun c e => by rw [h0.1] at e; cases e) (V := V11) (by simp [execOp, h0.1, e1]) ?_
  rw [h0.2.2]
  refine readF hty hE (.inl rfl) (ta := 164) o21_1 o21_2 o21_3 o21_4 o21_5 fld0 (by rw [put_size]; exact hn) (by decide) (by decide) (by rw [put_ne _ _ _ _ (by decide)]; exact e11) (by rw [put_ne _ _ _ _ (by decide)]; exact e12) hi hc hQ
end Go.Ev
set_option maxRecDepth 100000
namespace Go.Ev
open Go Go.Proofs
/-! TopDue: a round -/
theorem repA_at {ν : Nat → Int} {σ : Sg} {nt : Nat} {a : A} {act : Act} (k : RepA ν σ nt a act) {t : Nat} (ht : t < nt) {v : SV} (h : (flat a.tmps)[t]? = some v) (hv : v ≠ .dead) : Rep ν σ v (act.eval (.tmp t)) := by
  obtain ⟨s, W, h1, h2, h3⟩ := k.tmps.2 t ht
  rw [h] at h1; cases h1
  rcases h3 with rfl | h3
  · exact absurd rfl hv
  · have : act.eval (.tmp t) = W := by simp [Act.eval, h2]
    rw [this]; exact h3
theorem RepA.know {ν : Nat → Int} {σ : Sg} {nt : Nat} {a a' : A} {act : Act} (k : RepA ν σ nt a act) (hm : a'.marks = a.marks) (hf : ∀ u, u < nt → (flat a'.tmps)[u]? = (flat a.tmps)[u]? ∨ ∃ s, (flat a'.tmps)[u]? = some s ∧ Rep ν σ s (act.eval (.tmp u))) : RepA ν σ nt a' act := by
  refine ⟨⟨k.tmps.1, fun u hu => ?_⟩, ?_⟩
  · obtain ⟨s, W, h1, h2, h3⟩ := k.tmps.2 u hu
    rcases hf u hu with e | ⟨s', e1, e2⟩
    · exact ⟨s, W, by rw [e]; exact h1, h2, h3⟩
    · have : act.eval (.tmp u) = W := by simp [Act.eval, h2]
      rw [this] at e2
      exact ⟨s', W, e1, h2, .inr e2⟩
  · rw [hm]; exact k.defers
def isDead (o : Option SV) : Bool := match o with
  | some v => match v with
    | .dead => true
    | _ => false
  | Option.none => false
theorem isDead_ok {o : Option SV} (h : isDead o = true) : o = some .dead := by
  unfold isDead at h
  split at h
  · split at h
    · rfl
    · cases h
  · cases h
noncomputable def allDead (l : List SV) : Bool := allP 14 (fun j => isDead (getL l (j + 155)))
/-- what the heads have in common -/
structure HeadA (a : A) : Prop where
  t4 : (flat a.tmps)[4]? = some (.top 80 (.atom 35))
  t11 : (flat a.tmps)[11]? = some (.ptr 0 0)
  t21 : (flat a.tmps)[21]? = some (i64A 30)
  t22 : (flat a.tmps)[22]? = some .dead
  dead : allDead (flat a.tmps) = true
  len : (flat a.tmps).length = 256
theorem headA (k : Kd) : HeadA k.A := by
  cases k
  · exact ⟨rfl, rfl, rfl, rfl, (show allDead (flat hNvA.tmps) = true by kernel_rfl), (show (flat hNvA.tmps).length = 256 by kernel_rfl)⟩
  · exact ⟨rfl, rfl, rfl, rfl, (show allDead (flat hR0A.tmps) = true by kernel_rfl), (show (flat hR0A.tmps).length = 256 by kernel_rfl)⟩
  · exact ⟨rfl, rfl, rfl, rfl, (show allDead (flat hR1A.tmps) = true by kernel_rfl), (show (flat hR1A.tmps).length = 256 by kernel_rfl)⟩
  · exact ⟨rfl, rfl, rfl, rfl, (show allDead (flat hD0A.tmps) = true by kernel_rfl), (show (flat hD0A.tmps).length = 256 by kernel_rfl)⟩
  · exact ⟨rfl, rfl, rfl, rfl, (show allDead (flat hD1A.tmps) = true by kernel_rfl), (show (flat hD1A.tmps).length = 256 by kernel_rfl)⟩
theorem HeadA.deadAt {a : A} (h : HeadA a) {t : Nat} (h1 : 155 ≤ t) (h2 : t < 169) : (flat a.tmps)[t]? = some .dead := by
  have := allP_at h.dead (k := t - 155) (by omega)
  rw [show t - 155 + 155 = t by omega, getL_eq] at this
  exact isDead_ok this
/-- the acts stand in the world -/
structure Di.At (I : Di) (base : Nat) (w : World) : Prop where
  acts : ∀ i, i < I.ds.length → 0 ≤ I.tops 0 ∧ (I.tops 0).toNat < base ∧ I.tops 3 < 0 ∧ w.cell? ⟨(I.tops 0).toNat, (I.tops 1).toNat + i * 2 + 0, none⟩ = some (.int .i64 (I.deed i).1) ∧ w.cell? ⟨(I.tops 0).toNat, (I.tops 1).toNat + i * 2 + 1, none⟩ = some (.int .i64 (I.deed i).2)
theorem cell_kept {base : Nat} {w0 w : World} (h : BaseKept base w0 w) {b o : Nat} (hb : b < base) : w.cell? ⟨b, o, none⟩ = w0.cell? ⟨b, o, none⟩ := by
  simp only [World.cell?, h.keep b hb]
noncomputable def Dn.next (q : Dn) (c : Nat) (L : List SV) (dt : Int) : Dn :=
  { q with W0 := if c = 0 then q.X else q.W0, W1 := if c = 1 then q.X else q.W1, N := q.X, i := q.i + 1, dt := dt, step := stepOf dt, L := q.L + L.length / 5, log := codeL (evsOf q.log ++ evsSV q.V L) }
theorem memN_mem {n : Nat} : ∀ {l : List Nat}, memN n l = true → n ∈ l := by
  intro l
  induction l with
  | nil => intro h; cases h
  | cons a l ih =>
    intro h
    simp only [memN] at h
    split at h
    · rename_i g; rw [Nat.eq_of_beq_eq_true g]; exact .head _
    · exact .tail _ (ih h)
theorem keep_next (q : Dn) (L : List SV) (dt : Int) {c kd : Nat} (h : (c = 0 ∧ kd = 1) ∨ (c = 1 ∧ kd = 2)) : ∀ i, keepD kd i = true → q.V i = (q.next c L dt).V i := by
  intro i hi
  unfold keepD at hi
  split at hi
  · rename_i g
    have g := memN_mem g
    simp only [List.mem_cons, List.not_mem_nil, or_false] at g
    rcases g with rfl | rfl | rfl | rfl | rfl | rfl | rfl | rfl | rfl | rfl | rfl | rfl | rfl | rfl | rfl | rfl | rfl | rfl | rfl | rfl | rfl | rfl | rfl | rfl | rfl | rfl | rfl | rfl | rfl <;> rfl
  · rcases h with ⟨rfl, rfl⟩ | ⟨rfl, rfl⟩
    · have g := memN_mem hi
      simp only [List.mem_cons, List.not_mem_nil, or_false] at g
      rcases g with rfl | rfl | rfl <;> rfl
    · have g := memN_mem hi
      simp only [List.mem_cons, List.not_mem_nil, or_false] at g
      rcases g with rfl | rfl | rfl <;> rfl
theorem ints_next (q : Dn) (L : List SV) (dt : Int) {c n : Nat} (h : c = 0 ∨ c = 1) (hn : L.length / 5 = n) (h4 : n ≤ 4) : ∀ p ∈ roundD c n, p.1.val q.V = p.2.val (q.next c L dt).V := by
  intro p hp
  simp only [roundD, at2, List.mem_cons, List.not_mem_nil, or_false] at hp
  rcases hp with rfl | rfl | rfl | rfl <;> simp only [SInt.val]
  · rfl
  · rcases h with rfl | rfl
    · rw [Dn.v19, Dn.v10]; unfold Dn.next; dsimp only; rw [if_pos rfl]
    · rw [Dn.v19, Dn.v11]; unfold Dn.next; dsimp only; rw [if_pos rfl]
  · rfl
  · have e := (q.next c L dt).vL (j := 0) (by decide)
    rw [Nat.add_zero, Nat.add_zero] at e
    rw [e, q.vL (j := n) (by omega)]
    unfold Dn.next
    dsimp only
    rw [hn]
theorem logs_next (q : Dn) (L : List SV) (dt : Int) {c : Nat} {r i : T Nat} {ints : List (SInt × SInt)} {kp : Nat → Bool} : LogsOk ⟨r, i, ints, kp, [(5000, L, 5000)]⟩ q.V (q.next c L dt).V := by
  intro p hp
  have := List.mem_singleton.1 hp
  subst this
  refine ⟨?_, ?_⟩
  · have e := (q.next c L dt).vL (j := 0) (by decide)
    have e2 := q.vL (j := 0) (by decide)
    rw [Nat.add_zero, Nat.add_zero] at e e2
    dsimp only
    rw [e, e2]
    unfold Dn.next
    dsimp only
    omega
  · dsimp only
    rw [show logN 5000 = 1005000 from rfl, Dn.vlog, Dn.vlog]
    unfold Dn.next
    dsimp only
    exact evsOf_code _
/-- one round, of whatever kind -/
theorem round_of {E : Env} (hg : E.glob = glob0f) (hty : E.ty = tyT) {q : Dn} {base : Nat} (hE : EOk Tryz.prog E q.V) (hI : IntrOk Tryz.prog E q.V base) {sf : Self} (hS : SelfOk Tryz.prog E q.V base sf) {hA : A} {hSt : St} (hH : HeadA hA) {B : A} {c kd n5 : Nat} {R : List (Nat × Nat)} {L : List SV} {kA : A} {kS : St}
    (hB : flat B.tmps = (((flat hA.tmps).set 22 (i64L (c : Int))).set 163 (.ptr 0 0)).set 168 (i64A 38)) (hBm : B.marks = hA.marks)
    (run : isOkB ((regC E 255 dOps21 (dOps21d)).run sf B hSt fun a st => runCs sf 5 dRest a st (finD R (roundD c n5) kd [(5000, L, 5000)] kA kS)) = true)
    (hck : (c = 0 ∧ kd = 1) ∨ (c = 1 ∧ kd = 2)) (hn : L.length / 5 = n5) (h4 : n5 ≤ 4) {I : Di} (hlen : q.tops = I.tops ∧ q.len = I.ds.length) (hdt : q.dt = (I.deed q.i).1) (hc : cpuOf (I.deed q.i).2 = c) (hi : q.i < I.ds.length) {w0 : World} (hW : I.At base w0)
    {a1 : A} {s1 : St} (hgo : Lands Tryz.prog (envL true true) q.V base 255 dd18 Option.none hA hSt .normal a1 s1) (hgo2 : ∀ w0 act w, AtG q.V base w0 a1 s1 act w → AtG q.V base w0 hA hSt act w)
    {act : Act} {w : World} (k : AtG q.V base w0 hA hSt act w) {n : Nat} {Q : Exit → Act → World → Prop} (dt' : Int) (hQ : ∀ act' w', AtG (q.next c L dt').V base w0 kA kS act' w' → Q .normal act' w') : ddLoop.wpIn Fence.wide n Tryz.prog Q act w := by
  obtain ⟨out, ho⟩ := isOkB_ok run
  obtain ⟨a2, s2, h2, hreg⟩ := regC_ok (nt := 255) hE hI hS dOps21d ho
  obtain ⟨a3, s3, h3, hch⟩ := runCs_chainG hS h2
  obtain ⟨r, i, hf⟩ := finD_M h3
  obtain ⟨b1, t1, l1, b2, t2, l2, b3, t3, l3, x1, x2⟩ := hch
  subst x1; subst x2
  rw [ddLoop_eq]
  refine wpIn_seq (AtG.lands (E := envL true true) rfl hgo k fun act1 w1 k1 => ?_)
  obtain ⟨σ, q1, q2, q3⟩ := hgo2 _ _ _ k1
  have r4 := repA_at q2 (t := 4) (by omega) hH.t4 (by intro e; cases e)
  have r11 := repA_at q2 (t := 11) (by omega) hH.t11 (by intro e; cases e)
  have r21 := repA_at q2 (t := 21) (by omega) hH.t21 (by intro e; cases e)
  have hz : act1.tmps.size = 255 := q2.tmps.1
  simp only [Rep, i64A, SInt.val] at r4 r21
  obtain ⟨l, e4, el⟩ := r4
  rw [Dn.v35, hlen.2] at el
  rw [Dn.v30] at r21
  obtain ⟨p0, p1, p2, p3, p4⟩ := hW.acts q.i hi
  have v80 : q.V 80 = I.tops 0 := by rw [← hlen.1]; exact q.vtop (j := 0) (by decide)
  have v81 : q.V 81 = I.tops 1 := by rw [← hlen.1]; exact q.vtop (j := 1) (by decide)
  have v83 : q.V 83 = I.tops 3 := by rw [← hlen.1]; exact q.vtop (j := 3) (by decide)
  have htop : topP q.V 80 = some ⟨(I.tops 0).toNat, (I.tops 1).toNat, none⟩ := by
    unfold topP
    rw [v80, v81, v83, if_neg (by omega), if_pos p2]
  rw [htop] at e4
  rw [← cell_kept q3 p1] at p3 p4
  refine wpIn_seq (wpIn_block ?_)
  rw [ddIn_eq]
  refine wpIn_seq (reg20D hty hE hz e4 r21 (by omega) p4 (fun V0 V1 V2 V3 V4 V5 V6 V7 => ?_))
  have d0 := ((((((((q2.dead (hH.deadAt (t := 155) (by omega) (by omega)) V0).dead (hH.deadAt (t := 156) (by omega) (by omega)) V1).dead (hH.deadAt (t := 157) (by omega) (by omega)) V2).dead (hH.deadAt (t := 158) (by omega) (by omega)) V3).dead (hH.deadAt (t := 159) (by omega) (by omega)) V4).dead (hH.deadAt (t := 160) (by omega) (by omega)) V5).dead (hH.deadAt (t := 161) (by omega) (by omega)) V6).dead (hH.deadAt (t := 162) (by omega) (by omega)) V7).dead hH.t22 (.int .i64 (cpuOf (I.deed q.i).2 : Int))
  have f4 : (((((((((act1.put (some 155) V0).put (some 156) V1).put (some 157) V2).put (some 158) V3).put (some 159) V4).put (some 160) V5).put (some 161) V6).put (some 162) V7).put (some 22) (.int .i64 (cpuOf (I.deed q.i).2 : Int))).eval (.tmp 4) = act1.eval (.tmp 4) := by
    simp only [put_ne _ _ _ _ (show 155 ≠ 4 by decide), put_ne _ _ _ _ (show 156 ≠ 4 by decide), put_ne _ _ _ _ (show 157 ≠ 4 by decide), put_ne _ _ _ _ (show 158 ≠ 4 by decide), put_ne _ _ _ _ (show 159 ≠ 4 by decide), put_ne _ _ _ _ (show 160 ≠ 4 by decide), put_ne _ _ _ _ (show 161 ≠ 4 by decide), put_ne _ _ _ _ (show 162 ≠ 4 by decide), put_ne _ _ _ _ (show 22 ≠ 4 by decide)]
  have f11 : (((((((((act1.put (some 155) V0).put (some 156) V1).put (some 157) V2).put (some 158) V3).put (some 159) V4).put (some 160) V5).put (some 161) V6).put (some 162) V7).put (some 22) (.int .i64 (cpuOf (I.deed q.i).2 : Int))).eval (.tmp 11) = act1.eval (.tmp 11) := by
    simp only [put_ne _ _ _ _ (show 155 ≠ 11 by decide), put_ne _ _ _ _ (show 156 ≠ 11 by decide), put_ne _ _ _ _ (show 157 ≠ 11 by decide), put_ne _ _ _ _ (show 158 ≠ 11 by decide), put_ne _ _ _ _ (show 159 ≠ 11 by decide), put_ne _ _ _ _ (show 160 ≠ 11 by decide), put_ne _ _ _ _ (show 161 ≠ 11 by decide), put_ne _ _ _ _ (show 162 ≠ 11 by decide), put_ne _ _ _ _ (show 22 ≠ 11 by decide)]
  have f21 : (((((((((act1.put (some 155) V0).put (some 156) V1).put (some 157) V2).put (some 158) V3).put (some 159) V4).put (some 160) V5).put (some 161) V6).put (some 162) V7).put (some 22) (.int .i64 (cpuOf (I.deed q.i).2 : Int))).eval (.tmp 21) = act1.eval (.tmp 21) := by
    simp only [put_ne _ _ _ _ (show 155 ≠ 21 by decide), put_ne _ _ _ _ (show 156 ≠ 21 by decide), put_ne _ _ _ _ (show 157 ≠ 21 by decide), put_ne _ _ _ _ (show 158 ≠ 21 by decide), put_ne _ _ _ _ (show 159 ≠ 21 by decide), put_ne _ _ _ _ (show 160 ≠ 21 by decide), put_ne _ _ _ _ (show 161 ≠ 21 by decide), put_ne _ _ _ _ (show 162 ≠ 21 by decide), put_ne _ _ _ _ (show 22 ≠ 21 by decide)]
  have f22 : (((((((((act1.put (some 155) V0).put (some 156) V1).put (some 157) V2).put (some 158) V3).put (some 159) V4).put (some 160) V5).put (some 161) V6).put (some 162) V7).put (some 22) (.int .i64 (cpuOf (I.deed q.i).2 : Int))).eval (.tmp 22) = .int .i64 (c : Int) := by
    rw [put_at _ _ _ (by simp only [put_size]; omega), hc]
  have z2 : (((((((((act1.put (some 155) V0).put (some 156) V1).put (some 157) V2).put (some 158) V3).put (some 159) V4).put (some 160) V5).put (some 161) V6).put (some 162) V7).put (some 22) (.int .i64 (cpuOf (I.deed q.i).2 : Int))).tmps.size = 255 := by simp only [put_size]; exact hz
  generalize (((((((((act1.put (some 155) V0).put (some 156) V1).put (some 157) V2).put (some 158) V3).put (some 159) V4).put (some 160) V5).put (some 161) V6).put (some 162) V7).put (some 22) (.int .i64 (cpuOf (I.deed q.i).2 : Int))) = act2 at d0 f4 f11 f21 f22 z2
  refine wpIn_seq (wpIn_seq (reg21D hty hE z2 rfl (by rw [f4]; exact e4) (by rw [f21]; exact r21) (by omega) p3 (fun U0 U1 U2 U3 => ?_)))
  have d1 := (((((d0.dead (hH.deadAt (t := 163) (by omega) (by omega)) (act2.eval (.tmp 11))).dead (hH.deadAt (t := 164) (by omega) (by omega)) U0).dead (hH.deadAt (t := 165) (by omega) (by omega)) U1).dead (hH.deadAt (t := 166) (by omega) (by omega)) U2).dead (hH.deadAt (t := 167) (by omega) (by omega)) U3).dead (hH.deadAt (t := 168) (by omega) (by omega)) (.int .i64 (I.deed q.i).1)
  have g22 : ((((((act2.put (some 163) (act2.eval (.tmp 11))).put (some 164) U0).put (some 165) U1).put (some 166) U2).put (some 167) U3).put (some 168) (.int .i64 (I.deed q.i).1)).eval (.tmp 22) = .int .i64 (c : Int) := by
    rw [put_ne _ _ _ _ (by decide), put_ne _ _ _ _ (by decide), put_ne _ _ _ _ (by decide), put_ne _ _ _ _ (by decide), put_ne _ _ _ _ (by decide), put_ne _ _ _ _ (by decide), f22]
  have g163 : ((((((act2.put (some 163) (act2.eval (.tmp 11))).put (some 164) U0).put (some 165) U1).put (some 166) U2).put (some 167) U3).put (some 168) (.int .i64 (I.deed q.i).1)).eval (.tmp 163) = act1.eval (.tmp 11) := by
    rw [put_ne _ _ _ _ (by decide), put_ne _ _ _ _ (by decide), put_ne _ _ _ _ (by decide), put_ne _ _ _ _ (by decide), put_ne _ _ _ _ (by decide), put_at _ _ _ (by omega), f11]
  have g168 : ((((((act2.put (some 163) (act2.eval (.tmp 11))).put (some 164) U0).put (some 165) U1).put (some 166) U2).put (some 167) U3).put (some 168) (.int .i64 (I.deed q.i).1)).eval (.tmp 168) = .int .i64 (I.deed q.i).1 := by
    rw [put_at _ _ _ (by simp only [put_size]; omega)]
  generalize ((((((act2.put (some 163) (act2.eval (.tmp 11))).put (some 164) U0).put (some 165) U1).put (some 166) U2).put (some 167) U3).put (some 168) (.int .i64 (I.deed q.i).1)) = act3 at d1 g22 g163 g168
  have d2 : RepA q.V σ 255 B act3 := by
    refine d1.know hBm (fun u hu => ?_)
    rw [hB]
    have hl := hH.len
    by_cases h168 : u = 168
    · subst h168
      refine .inr ⟨i64A 38, by rw [List.getElem?_set_self (by simp only [List.length_set]; omega)], ?_⟩
      rw [g168]
      simp only [i64A, Rep, SInt.val]
      rw [Dn.v38, hdt]
    · rw [List.getElem?_set_ne (by omega)]
      by_cases h163 : u = 163
      · subst h163
        exact .inr ⟨.ptr 0 0, by rw [List.getElem?_set_self (by simp only [List.length_set]; omega)], by rw [g163]; exact r11⟩
      · rw [List.getElem?_set_ne (by omega)]
        by_cases h22 : u = 22
        · subst h22
          refine .inr ⟨i64L (c : Int), by rw [List.getElem?_set_self (by omega)], ?_⟩
          rw [g22]
          simp only [i64L, Rep, SInt.val]
        · rw [List.getElem?_set_ne (by omega)]
          exact .inl rfl
  have q1' : Sim Tryz.prog E q.V base σ hSt w1 := Sim.env' (E := EP) (E' := E) hg q1
  refine hreg σ w1 act3 Fence.wide n _ q1' d2 (.inl rfl) (fun σ4 w4 act4 go4 k4 => ?_)
  have k5 : AtG q.V base w0 a2 s2 act4 w4 := ⟨σ4, Sim.env' (E := E) (E' := EP) hg.symm go4.2, k4, q3.trans (go4.kept q1')⟩
  refine AtG.lands hg l1 k5 (fun act5 w5 k5 => ?_)
  refine AtG.lands hg l2 k5 (fun act6 w6 k6 => ?_)
  refine AtG.lands hg l3 k6 (fun act7 w7 k7 => ?_)
  exact hQ act7 w7 (k7.fin hf ⟨ints_next q L dt' (by omega) hn h4, keep_next q L dt' hck⟩ (logs_next q L dt') (zeroP q))
end Go.Ev
set_option maxRecDepth 100000
namespace Go.Ev
open Go Go.Proofs
/-! TopDue: the loop -/
/-- what holds at the loop's head -/
structure Inv (I : Di) (q : Dn) (k : Kd) : Prop where
  ok : q.Ok
  eq : q.tops = I.tops ∧ q.len = I.ds.length
  dt : q.dt = (I.deed q.i).1
  W : q.W0 ≤ q.N ∧ q.W1 ≤ q.N
  n0 : q.n0 ≤ q.W0 ∧ q.n0 ≤ q.W1
  L : q.L ≤ 13 + 4 * q.i
  arm : k = .r0 ∨ k = .r1 → ArmOk q
  r0 : k = .r0 → q.W0 < q.D
  r1 : k = .r1 → q.W1 < q.D
theorem X_ge {q : Dn} (h : q.Ok) : q.N ≤ q.X := by
  have := h.u64.2.2
  unfold Dn.X; omega
theorem inv_next {I : Di} (hI : I.Ok) {q : Dn} {k k' : Kd} (h : Inv I q k) (hi : q.i < 40) {c n : Nat} {L : List SV} (hc : c = 0 ∨ c = 1) (hn : L.length / 5 = n) (h4 : n ≤ 4) (hk : k' = .r0 ∨ k' = .r1 → k' = k) (h0 : k' = .r0 → c = 0 → q.X < q.D) (h1 : k' = .r1 → c = 1 → q.X < q.D) :
    Inv I (q.next c L (I.deed (q.i + 1)).1) k' := by
  have hX := X_ge h.ok
  have hX2 := X_lt q
  have ok := h.ok
  have hL := h.L
  have hL1 := ok.L.1
  have hw := (deed_wrap hI (q.i + 1)).1
  obtain ⟨w0, w1⟩ := h.W
  obtain ⟨n0, n1⟩ := h.n0
  have e : ∀ p, k' = p → (p = .r0 ∨ p = .r1) → k = p := fun p e hp => by
    rw [← hk (by rw [e]; exact hp)]; exact e
  have harm : k' = .r0 ∨ k' = .r1 → ArmOk q := fun g => h.arm (by rw [← hk g]; exact g)
  unfold Dn.next
  refine { ok := ?_, eq := h.eq, dt := rfl, W := ?_, n0 := ?_, L := ?_, arm := fun g => ?_, r0 := fun g => ?_, r1 := fun g => ?_ } <;> try dsimp only
  · refine { fr := ⟨ok.fr.1, ok.fr.2.1, hw⟩, fl := ok.fl, cp := ok.cp, step := step_val _, u64 := ⟨ok.u64.1, ok.u64.2.1, hX2⟩, i := ?_, S := ok.S, lv := ok.lv, L := ?_ }
    · show q.i + 1 ≤ 40; omega
    · show 1 ≤ q.L + L.length / 5 ∧ q.L + L.length / 5 ≤ 3000
      rw [hn]; omega
  · rcases hc with rfl | rfl
    · rw [if_pos rfl, if_neg (by decide)]; omega
    · rw [if_neg (by decide), if_pos rfl]; omega
  · rcases hc with rfl | rfl
    · rw [if_pos rfl, if_neg (by decide)]; omega
    · rw [if_neg (by decide), if_pos rfl]; omega
  · rw [hn]; omega
  · have a := harm g
    exact { n0 := a.n0, dl := a.dl, A := a.A, lv := a.lv, D := a.D, S := a.S }
  · have g0 := h.r0 (e .r0 g (.inl rfl))
    rcases hc with rfl | rfl
    · rw [if_pos rfl]; exact h0 g rfl
    · rw [if_neg (by decide)]; exact g0
  · have g0 := h.r1 (e .r1 g (.inr rfl))
    rcases hc with rfl | rfl
    · rw [if_neg (by decide)]; exact g0
    · rw [if_pos rfl]; exact h1 g rfl
section
variable {q : Dn} {base : Nat}
theorem awakeI_ok {E : Env} (hg : E.glob = glob0f) {ν : Nat → Int} {args : List SV} {st : St} {k : SV → St → R} {fb : Unit → R} {out} (h : awakeI.run args st k fb = .ok out) :
    (∃ v st', k v st' = .ok out ∧ CallLands Tryz.prog E ν base 12 args st v st') ∨ fb () = .ok out := by
  unfold awakeI at h
  dsimp only at h
  split at h
  · exact .inl ⟨_, st, h, awake_lands hg st⟩
  · exact .inr h
theorem sfL_ok (hq : q.Ok) {b1 b2 : Bool} (h1 : b1 = decide (q.i < q.len)) (h2 : b1 = true → b2 = decide (q.i < 40)) : EOk Tryz.prog (envL b1 b2) q.V ∧ SelfOk Tryz.prog (envL b1 b2) q.V base (sfL b1 b2) := by
  have hr : ∀ r ∈ rulesL b1 b2, RlOk Tryz.prog q.V r := by
    intro r hr
    unfold rulesL at hr
    split at hr
    · have h1 : q.i < q.len := of_decide_eq_true h1.symm
      have h2 := h2 rfl
      simp only [rl, List.mem_cons, List.not_mem_nil, or_false] at hr
      rcases hr with rfl | rfl <;> simp only [RlOk, rlV, SInt.val]
      · exact symLss (by rw [Dn.v30, Dn.v35, decide_eq_true (by omega)])
      · refine symLss ?_
        rw [Dn.v30, h2]
        by_cases g : q.i < 40
        · rw [decide_eq_true g, decide_eq_true (by omega)]
        · rw [decide_eq_false g, decide_eq_false (by omega)]
    · have h1 : ¬ q.i < q.len := of_decide_eq_false h1.symm
      simp only [rl, List.mem_cons, List.not_mem_nil, or_false] at hr
      subst hr
      simp only [RlOk, rlV, SInt.val]
      exact symLss (by rw [Dn.v30, Dn.v35, decide_eq_false (by omega)])
  have hE : EOk Tryz.prog (envL b1 b2) q.V := eokP hr (rngsD_ok hq) (logN_ok hq) (convsD_ok q)
  have hI : IntrOk Tryz.prog (envL b1 b2) q.V base := by
    intro g x hx args st k fb out h
    simp only [envL, intrX] at hx
    split at hx
    · cases hx; exact awakeI_ok rfl h
    · exact i2g rfl hx h
  exact ⟨hE, selfN_ok hE hI _⟩
theorem finL_M {a aL : A} {st sL : St} {out} (h : finL aL sL a st = .ok out) : ∃ r, finM ⟨r, r, [], fun _ => true, [(5000, [], 5000)]⟩ szP aL sL a st = .ok out := by
  unfold finL at h
  obtain ⟨r, h1, _⟩ := mkT'_mem (idR 100) .leaf (fun r => finM ⟨r, r, [], fun _ => true, [(5000, [], 5000)]⟩ szP aL sL a st)
  rw [h1] at h
  exact ⟨r, h⟩
theorem go_ok (k : Kd) : goOk k.A k.S = true := by
  cases k
  · exact go_nv
  · exact go_r0
  · exact go_r1
  · exact go_d0
  · exact go_d1
/-- the loop's test, when it goes on -/
theorem go_at (hq : q.Ok) (h1 : q.i < q.len) (h2 : q.i < 40) (k : Kd) : ∃ a1 s1, Lands Tryz.prog (envL true true) q.V base 255 dd18 Option.none k.A k.S .normal a1 s1 ∧ ∀ w0 act w, AtG q.V base w0 a1 s1 act w → AtG q.V base w0 k.A k.S act w := by
  have hS := (sfL_ok hq (b1 := true) (b2 := true) (decide_eq_true h1).symm (fun _ => (decide_eq_true h2).symm) (base := base)).2
  have h0 := go_ok k
  unfold goOk at h0
  generalize sfL true true = sf at hS h0
  obtain ⟨out, ho⟩ := isOkB_ok h0
  obtain ⟨a1, s1, h2, b1, t1, l1, x1, x2⟩ := runCs_chainG hS ho
  subst x1; subst x2
  obtain ⟨r, hf⟩ := finL_M h2
  refine ⟨_, _, l1, fun w0 act w k => k.fin hf ⟨fun p hp => (by cases hp), fun _ _ => rfl⟩ (fun p hp => ?_) (zeroP q)⟩
  have := List.mem_singleton.1 hp
  subst this
  refine ⟨?_, ?_⟩
  · show q.V 5000 = q.V 5000 + ((0 / 5 : Nat) : Int); omega
  · show evsOf (q.V (logN 5000)) = evsOf (q.V (logN 5000)) ++ []
    rw [List.append_nil]
end
/-- a round -/
theorem round_at {I : Di} (hI : I.Ok) {q : Dn} {k : Kd} (h : Inv I q k) (hi : q.i < I.ds.length) (h40 : q.i < 40) {base : Nat} {w0 : World} (hW : I.At base w0) {act : Act} {w : World} (k1 : AtG q.V base w0 k.A k.S act w) {n : Nat} {Q : Exit → Act → World → Prop}
    (hQ : ∀ q' k' act' w', Inv I q' k' → q'.i = q.i + 1 → AtG q'.V base w0 k'.A k'.S act' w' → Q .normal act' w') : ddLoop.wpIn Fence.wide n Tryz.prog Q act w := by
  have hq := h.ok
  have hX := X_ge hq
  have h2 : W2Ok q := ⟨by have := h.W.1; omega, by have := h.W.2; omega⟩
  obtain ⟨a1, s1, hgo, hgo2⟩ := go_at (base := base) hq (by rw [h.eq.2]; exact hi) h40 k
  obtain ⟨hQE, hQI, hQS⟩ := sfQ_ok hq h2 (base := base)
  have cv := (cpu_val (I.deed q.i).2).2
  -- the CPU
  have hc : cpuOf (I.deed q.i).2 = 0 ∨ cpuOf (I.deed q.i).2 = 1 := by omega
  -- the timer's wheel
  have hT0 : ∀ due, k = .r0 → due = decide (q.D ≤ q.X) → ToOk q due 0 := fun due e hd => by
    have hA := h.arm (.inl e)
    have hD := h.r0 e
    have hDle := dueP_le q.A q.lv
    have hDe := hA.D
    have hst := hq.small.2.2.1
    have hN := h.W.1
    refine ⟨hA, hd, q.W0, Dn.v10 q, h.n0.1, hD, ?_⟩
    unfold Dn.X
    omega
  have hT1 : ∀ due, k = .r1 → due = decide (q.D ≤ q.X) → ToOk q due 1 := fun due e hd => by
    have hA := h.arm (.inr e)
    have hD := h.r1 e
    have hDle := dueP_le q.A q.lv
    have hDe := hA.D
    have hst := hq.small.2.2.1
    have hN := h.W.2
    refine ⟨hA, hd, q.W1, Dn.v11 q, h.n0.2, hD, ?_⟩
    unfold Dn.X
    omega
  cases k with
  | nv =>
    rcases hc with hc | hc
    · refine round_of rfl rfl hQE hQI hQS (headA .nv) (B := nv0B) (by kernel_rfl) (by kernel_rfl) run_nv0 (.inl ⟨rfl, rfl⟩) (by kernel_rfl) (by decide) h.eq h.dt hc hi hW hgo hgo2 k1 (I.deed (q.i + 1)).1 (fun act' w' k' => hQ _ .nv act' w' (inv_next hI h h40 (.inl rfl) (n := 2) (by kernel_rfl) (by decide) (fun e => ?_) (fun e => (nomatch e)) (fun e => (nomatch e))) rfl k')
      rcases e with e | e <;> cases e
    · refine round_of rfl rfl hQE hQI hQS (headA .nv) (B := nv1B) (by kernel_rfl) (by kernel_rfl) run_nv1 (.inr ⟨rfl, rfl⟩) (by kernel_rfl) (by decide) h.eq h.dt hc hi hW hgo hgo2 k1 (I.deed (q.i + 1)).1 (fun act' w' k' => hQ _ .nv act' w' (inv_next hI h h40 (.inr rfl) (n := 2) (by kernel_rfl) (by decide) (fun e => ?_) (fun e => (nomatch e)) (fun e => (nomatch e))) rfl k')
      rcases e with e | e <;> cases e
  | d0 =>
    rcases hc with hc | hc
    · refine round_of rfl rfl hQE hQI hQS (headA .d0) (B := dn00B) (by kernel_rfl) (by kernel_rfl) run_dn00 (.inl ⟨rfl, rfl⟩) (by kernel_rfl) (by decide) h.eq h.dt hc hi hW hgo hgo2 k1 (I.deed (q.i + 1)).1 (fun act' w' k' => hQ _ .d0 act' w' (inv_next hI h h40 (.inl rfl) (n := 2) (by kernel_rfl) (by decide) (fun e => ?_) (fun e => (nomatch e)) (fun e => (nomatch e))) rfl k')
      rcases e with e | e <;> cases e
    · refine round_of rfl rfl hQE hQI hQS (headA .d0) (B := dn01B) (by kernel_rfl) (by kernel_rfl) run_dn01 (.inr ⟨rfl, rfl⟩) (by kernel_rfl) (by decide) h.eq h.dt hc hi hW hgo hgo2 k1 (I.deed (q.i + 1)).1 (fun act' w' k' => hQ _ .d0 act' w' (inv_next hI h h40 (.inr rfl) (n := 2) (by kernel_rfl) (by decide) (fun e => ?_) (fun e => (nomatch e)) (fun e => (nomatch e))) rfl k')
      rcases e with e | e <;> cases e
  | d1 =>
    rcases hc with hc | hc
    · refine round_of rfl rfl hQE hQI hQS (headA .d1) (B := dn10B) (by kernel_rfl) (by kernel_rfl) run_dn10 (.inl ⟨rfl, rfl⟩) (by kernel_rfl) (by decide) h.eq h.dt hc hi hW hgo hgo2 k1 (I.deed (q.i + 1)).1 (fun act' w' k' => hQ _ .d1 act' w' (inv_next hI h h40 (.inl rfl) (n := 2) (by kernel_rfl) (by decide) (fun e => ?_) (fun e => (nomatch e)) (fun e => (nomatch e))) rfl k')
      rcases e with e | e <;> cases e
    · refine round_of rfl rfl hQE hQI hQS (headA .d1) (B := dn11B) (by kernel_rfl) (by kernel_rfl) run_dn11 (.inr ⟨rfl, rfl⟩) (by kernel_rfl) (by decide) h.eq h.dt hc hi hW hgo hgo2 k1 (I.deed (q.i + 1)).1 (fun act' w' k' => hQ _ .d1 act' w' (inv_next hI h h40 (.inr rfl) (n := 2) (by kernel_rfl) (by decide) (fun e => ?_) (fun e => (nomatch e)) (fun e => (nomatch e))) rfl k')
      rcases e with e | e <;> cases e
  | r0 =>
    rcases hc with hc | hc
    · by_cases hd : q.D ≤ q.X
      · obtain ⟨hE, hIn, hS⟩ := sfR_ok hq (hT0 true rfl (decide_eq_true hd).symm) h2 (base := base)
        refine round_of rfl rfl hE hIn hS (headA .r0) (B := fi0B) (by kernel_rfl) (by kernel_rfl) run_fi0 (.inl ⟨rfl, rfl⟩) (by kernel_rfl) (by decide) h.eq h.dt hc hi hW hgo hgo2 k1 (I.deed (q.i + 1)).1 (fun act' w' k' => hQ _ .d0 act' w' (inv_next hI h h40 (.inl rfl) (n := 4) (by kernel_rfl) (by decide) (fun e => ?_) (fun e => (nomatch e)) (fun e => (nomatch e))) rfl k')
        rcases e with e | e <;> cases e
      · obtain ⟨hE, hIn, hS⟩ := sfR_ok hq (hT0 false rfl (decide_eq_false hd).symm) h2 (base := base)
        exact round_of rfl rfl hE hIn hS (headA .r0) (B := ra00B) (by kernel_rfl) (by kernel_rfl) run_ra00 (.inl ⟨rfl, rfl⟩) (by kernel_rfl) (by decide) h.eq h.dt hc hi hW hgo hgo2 k1 (I.deed (q.i + 1)).1 (fun act' w' k' => hQ _ .r0 act' w' (inv_next hI h h40 (.inl rfl) (n := 2) (by kernel_rfl) (by decide) (fun _ => rfl) (fun _ _ => by omega) (fun e => (nomatch e))) rfl k')
    · exact round_of rfl rfl hQE hQI hQS (headA .r0) (B := ra01B) (by kernel_rfl) (by kernel_rfl) run_ra01 (.inr ⟨rfl, rfl⟩) (by kernel_rfl) (by decide) h.eq h.dt hc hi hW hgo hgo2 k1 (I.deed (q.i + 1)).1 (fun act' w' k' => hQ _ .r0 act' w' (inv_next hI h h40 (.inr rfl) (n := 2) (by kernel_rfl) (by decide) (fun _ => rfl) (fun _ e => (nomatch e)) (fun e => (nomatch e))) rfl k')
  | r1 =>
    rcases hc with hc | hc
    · exact round_of rfl rfl hQE hQI hQS (headA .r1) (B := ra10B) (by kernel_rfl) (by kernel_rfl) run_ra10 (.inl ⟨rfl, rfl⟩) (by kernel_rfl) (by decide) h.eq h.dt hc hi hW hgo hgo2 k1 (I.deed (q.i + 1)).1 (fun act' w' k' => hQ _ .r1 act' w' (inv_next hI h h40 (.inl rfl) (n := 2) (by kernel_rfl) (by decide) (fun _ => rfl) (fun e => (nomatch e)) (fun _ e => (nomatch e))) rfl k')
    · by_cases hd : q.D ≤ q.X
      · obtain ⟨hE, hIn, hS⟩ := sfR_ok hq (hT1 true rfl (decide_eq_true hd).symm) h2 (base := base)
        refine round_of rfl rfl hE hIn hS (headA .r1) (B := fi1B) (by kernel_rfl) (by kernel_rfl) run_fi1 (.inr ⟨rfl, rfl⟩) (by kernel_rfl) (by decide) h.eq h.dt hc hi hW hgo hgo2 k1 (I.deed (q.i + 1)).1 (fun act' w' k' => hQ _ .d1 act' w' (inv_next hI h h40 (.inr rfl) (n := 4) (by kernel_rfl) (by decide) (fun e => ?_) (fun e => (nomatch e)) (fun e => (nomatch e))) rfl k')
        rcases e with e | e <;> cases e
      · obtain ⟨hE, hIn, hS⟩ := sfR_ok hq (hT1 false rfl (decide_eq_false hd).symm) h2 (base := base)
        exact round_of rfl rfl hE hIn hS (headA .r1) (B := ra11B) (by kernel_rfl) (by kernel_rfl) run_ra11 (.inr ⟨rfl, rfl⟩) (by kernel_rfl) (by decide) h.eq h.dt hc hi hW hgo hgo2 k1 (I.deed (q.i + 1)).1 (fun act' w' k' => hQ _ .r1 act' w' (inv_next hI h h40 (.inr rfl) (n := 2) (by kernel_rfl) (by decide) (fun _ => rfl) (fun e => (nomatch e)) (fun _ _ => by omega)) rfl k')
end Go.Ev
set_option maxRecDepth 100000
namespace Go.Ev
open Go Go.Proofs
/-! TopDue: the whole function -/
theorem exD1 (k : Kd) : exOk false true k.A k.S = true := by
  cases k
  · exact ex1_nv
  · exact ex1_r0
  · exact ex1_r1
  · exact ex1_d0
  · exact ex1_d1
theorem exD2 (k : Kd) : exOk true false k.A k.S = true := by
  cases k
  · exact ex2_nv
  · exact ex2_r0
  · exact ex2_r1
  · exact ex2_d0
  · exact ex2_d1
/-- the function's end -/
theorem end1 {E : Env} (hg : E.glob = glob0f) {ν : Nat → Int} {base : Nat} (hE : EOk Tryz.prog E ν) {sf : Self} (hS : SelfOk Tryz.prog E ν base sf) {a : A} {st : St} {out} (h : sf.code 5 ddEnd Option.none a st (finV5 Tryz.f5.ntmps E) = .ok out)
    {w0 w : World} {act : Act} (k : AtG ν base w0 a st act w) {n : Nat} {R : Ending → World → Prop} (hR : ∀ w', BaseKept base w0 w' → R (.returned (.bool true)) w') : ddEnd.wpIn Fence.wide n Tryz.prog (bodyPostM Fence.wide n Tryz.prog Tryz.f5 R) act w := by
  obtain ⟨e, a1, st1, h1, hl⟩ := codeX hS h
  unfold finV5 at h1
  cases e <;> dsimp only at h1 <;> try (cases h1; done)
  have h0 := closeK_ok (P := Tryz.prog) (E := E) (ν := ν) (base := base) h1
  clear h1
  obtain ⟨st2, h2, hclose⟩ := h0
  have h0 := resultsC_ok (base := base) hE h2
  clear h2
  obtain ⟨vs, h3, hres⟩ := h0
  obtain ⟨σ, k1, k2, k3⟩ := k
  have k1' : Sim Tryz.prog E ν base σ st w := Sim.env' (E := EP) (E' := E) hg k1
  refine hl σ w act Fence.wide n _ k1' k2 rfl (fun σ1 w1 act1 go1 ha1 => ?_)
  show LeavesInM Fence.wide n Tryz.prog Tryz.f5 act1.tmps R act1.defers .returning w1
  obtain ⟨Ds, q1, q2, q3⟩ := ha1.defers
  rw [q1]
  refine hclose σ1 w1 n _ act1.tmps R Ds go1.2 q2 q3 (fun w2 go2 => ?_)
  obtain ⟨Vs, r1, r2⟩ := hres σ1 w2 act1 go2.2 (by rw [f5_nt]; exact ha1)
  refine ⟨_, results_run r1, ?_⟩
  split at h3
  · rename_i v
    split at h3
    · split at h3
      · simp only [RepL, Rep] at r2
        obtain ⟨V, Us, rfl, rfl, rfl⟩ := r2
        have := hR w2 (k3.trans (((go1.trans go2)).kept k1'))
        simpa using this
      · cases h3
    · cases h3
  · cases h3
theorem envL_glob (b1 b2 : Bool) : (envL b1 b2).glob = glob0f := rfl
theorem exFin_ok {b1 b2 : Bool} {e : Ex} {a : A} {st : St} {out} (h : exFin b1 b2 e a st = .ok out) : e = .exit 0 ∧ (sfL b1 b2).code 5 ddEnd Option.none a st (finV5 Tryz.f5.ntmps (envL b1 b2)) = .ok out := by
  unfold exFin at h
  generalize sfL b1 b2 = sf at h ⊢
  generalize finV5 Tryz.f5.ntmps (envL b1 b2) = F at h ⊢
  generalize ddEnd = c at h ⊢
  cases e <;> dsimp only at h <;> try (cases h; done)
  rename_i j
  split at h
  · rename_i gj
    have gj := Nat.eq_of_beq_eq_true gj
    subst gj
    exact ⟨rfl, h⟩
  · cases h
theorem exRun_ok {E : Env} {ν : Nat → Int} {base : Nat} {sf : Self} (hS : SelfOk Tryz.prog E ν base sf) {F : Ex → A → St → R} {a : A} {st : St} (hx : isOkB (sf.code 5 ddLoop Option.none a st F) = true) :
    ∃ e a1 s1 out, F e a1 s1 = .ok out ∧ Lands Tryz.prog E ν base 255 ddLoop Option.none a st e a1 s1 := by
  obtain ⟨out, ho⟩ := isOkB_ok hx
  obtain ⟨e, a1, s1, h3, hl⟩ := codeX hS ho
  exact ⟨e, a1, s1, out, h3, hl⟩
theorem exit_at {q : Dn} {base : Nat} (hq : q.Ok) (k : Kd) {b1 b2 : Bool} (h1 : b1 = decide (q.i < q.len)) (h2 : b1 = true → b2 = decide (q.i < 40)) (hx : exOk b1 b2 k.A k.S = true) {w0 w : World} {act : Act} (k1 : AtG q.V base w0 k.A k.S act w) {n : Nat} {R : Ending → World → Prop}
    (hR : ∀ w', BaseKept base w0 w' → R (.returned (.bool true)) w') {Q : Exit → Act → World → Prop} (hQ : ∀ act' w', ddEnd.wpIn Fence.wide n Tryz.prog (bodyPostM Fence.wide n Tryz.prog Tryz.f5 R) act' w' → Q (.exit 0) act' w') : ddLoop.wpIn Fence.wide n Tryz.prog Q act w := by
  obtain ⟨hE, hS⟩ := sfL_ok hq h1 h2 (base := base)
  unfold exOk at hx
  obtain ⟨e, a1, s1, out, h3, hl⟩ := exRun_ok hS hx
  obtain ⟨rfl, h4⟩ := exFin_ok h3
  have he : ∀ act' w', AtG q.V base w0 a1 s1 act' w' → ddEnd.wpIn Fence.wide n Tryz.prog (bodyPostM Fence.wide n Tryz.prog Tryz.f5 R) act' w' := by
    generalize sfL b1 b2 = sf at hS h4
    exact fun act' w' k2 => end1 (envL_glob b1 b2) hE hS h4 k2 hR
  exact AtG.lands (envL_glob b1 b2) hl k1 (fun act' w' k2 => hQ act' w' (he act' w' k2))
def slotD (act : Act) : Nat := match act.eval (.tmp 21) with
  | .int _ x => (50 - x).toNat
  | _ => 0
theorem slotD_at {q : Dn} {base : Nat} {w0 w : World} {act : Act} {k : Kd} (k1 : AtG q.V base w0 k.A k.S act w) : slotD act = 50 - q.i := by
  obtain ⟨σ, q1, q2, q3⟩ := k1
  have r21 := repA_at q2 (t := 21) (by omega) (headA k).t21 (by intro e; cases e)
  simp only [Rep, i64A, SInt.val] at r21
  rw [Dn.v30] at r21
  unfold slotD
  rw [r21]
  show (50 - ((q.i : Nat) : Int)).toNat = _
  omega
/-- the loop, and the end -/
theorem loop_at {I : Di} (hI : I.Ok) {q : Dn} {k : Kd} (h : Inv I q k) {base : Nat} {w0 : World} (hW : I.At base w0) {act : Act} {w : World} (k1 : AtG q.V base w0 k.A k.S act w) {n : Nat} {R : Ending → World → Prop}
    (hR : ∀ w', BaseKept base w0 w' → R (.returned (.bool true)) w') {Q : Exit → Act → World → Prop} (hQ : ∀ act' w', ddEnd.wpIn Fence.wide n Tryz.prog (bodyPostM Fence.wide n Tryz.prog Tryz.f5 R) act' w' → Q .normal act' w') :
    (Code.block 0 (.loop ddLoop)).wpIn Fence.wide n Tryz.prog Q act w := by
  refine wpIn_block (wpIn_loop (fun a W => ∃ q' k', Inv I q' k' ∧ AtG q'.V base w0 k'.A k'.S a W) (fun a _ => slotD a) ⟨q, k, h, k1⟩ ?_)
  rintro a W ⟨q1, k', g, k2⟩
  have m1 := slotD_at k2
  have hi40 := g.ok.i
  by_cases hi : q1.i < q1.len
  · by_cases h40 : q1.i < 40
    · refine round_at hI g (by rw [← g.eq.2]; exact hi) h40 hW k2 (fun q2 k3 act' w' g' hi' k4 => ⟨⟨q2, k3, g', k4⟩, ?_⟩)
      rw [slotD_at k4, m1, hi']
      omega
    · exact exit_at g.ok k' (decide_eq_true hi).symm (fun _ => (decide_eq_false h40).symm) (exD2 k') k2 hR (fun act' w' h => hQ act' w' h)
  · exact exit_at g.ok k' (decide_eq_false hi).symm (fun e => (nomatch e)) (exD1 k') k2 hR (fun act' w' h => hQ act' w' h)
theorem inv0 {I : Di} (h : I.Ok) : Inv I I.q0 I.k0 := by
  have hk : (I.k0 = .r0 → I.ok = true) ∧ (I.k0 = .r1 → I.ok = true) := by
    unfold Di.k0
    cases I.ok with
    | true => exact ⟨fun _ => rfl, fun _ => rfl⟩
    | false => exact ⟨fun e => (nomatch e), fun e => (nomatch e)⟩
  have hn : I.ok = true → I.n0 < I.D := fun e => by
    obtain ⟨h1, h2, h3, h4, h5, h6⟩ := h.arm e
    have hA := q0_arm h e
    have hle := hA.le (show I.q0.lv < 8 from (q0_ok h).lv)
    have e1 : I.q0.A = I.A := by unfold Di.q0; rfl
    have e2 : I.q0.D = I.D := by unfold Di.q0; rfl
    rw [e1, e2] at hle
    have := clampN_gt (d := I.dl) h1
    rw [← h3] at this
    omega
  have hok := q0_ok h
  have harm := fun e => q0_arm h e
  refine { ok := hok, eq := ?_, dt := ?_, W := ?_, n0 := ?_, L := ?_, arm := fun g => harm (by rcases g with g | g; exact hk.1 g; exact hk.2 g), r0 := fun g => ?_, r1 := fun g => ?_ }
  · unfold Di.q0; exact ⟨rfl, rfl⟩
  · unfold Di.q0; rfl
  · unfold Di.q0; exact ⟨Nat.le_refl _, Nat.le_refl _⟩
  · unfold Di.q0; exact ⟨Nat.le_refl _, Nat.le_refl _⟩
  · rw [q0_L]; omega
  · have := hn (hk.1 g)
    unfold Di.q0; exact this
  · have := hn (hk.2 g)
    unfold Di.q0; exact this
theorem ddBody_eq : ddBody = .seq (ddAt 0) (.seq (ddAt 1) (.seq (ddAt 2) (.seq (ddAt 3) (.seq (ddAt 4) (.seq (ddAt 5) (.seq (ddAt 6) (.seq (ddAt 7) (.seq (ddAt 8) (.seq (ddAt 9) (.seq (ddAt 10) (.seq (ddAt 11) (.seq (ddAt 12) (.seq (.seq (hdP (ddAt 13)) (.block 0 (.loop ddLoop))) ddEnd))))))))))))) := by kernel_rfl
theorem f5_body : Tryz.f5.body = some ddBody := by kernel_rfl
/-- TopDue answers true, from any world that holds the tables and the acts -/
theorem due_calls {I : Di} (hI : I.Ok) {W : World} (hW : I.At W.heap.size W) (hG : ∀ g cs, glob0f g = some cs → g < W.heap.size ∧ ∃ C t f, W.heap[g]? = some (.cells C t f) ∧ ∀ σ, RepL I.q0.V σ cs C.toList) {V4 : Value} (h4 : V4 = .slice (topP I.q0.V 80) I.ds.length (topC I.q0.V 80)) {n : Nat} {R : Ending → World → Prop}
    (hR : ∀ w', BaseKept W.heap.size W w' → R (.returned (.bool true)) w') : CallsIn Fence.wide n Tryz.prog 5 #[.int .u64 (I.n0 : Int), .int .u64 (I.tk : Int), .int .i64 I.fr, .int .i64 I.cr, V4] W R := by
  refine callsIn_of_wp_marks Tryz.func5 f5_body trivial ?_
  have v9 : I.q0.V 9 = (I.n0 : Int) := by rw [Dn.v9]; unfold Di.q0; rfl
  have v2 : I.q0.V 2 = (I.tk : Int) := by rw [Dn.v2]; unfold Di.q0; rfl
  have v3 : I.q0.V 3 = I.fr := by rw [Dn.v3]; unfold Di.q0; rfl
  have v4 : I.q0.V 4 = I.cr := by rw [Dn.v4]; unfold Di.q0; rfl
  have v35 : I.q0.V 35 = (I.ds.length : Int) := by rw [Dn.v35]; unfold Di.q0; rfl
  have k0 : AtG I.q0.V W.heap.size W dd0A ⟨.leaf, 0⟩ { tmps := #[.int .u64 (I.n0 : Int), .int .u64 (I.tk : Int), .int .i64 I.fr, .int .i64 I.cr, V4] ++ Array.replicate (Tryz.f5.ntmps - 5) undef, defers := [] } W := by
    refine ⟨fun _ => Option.none, ⟨fun _ _ => rfl, (fun n b e => by cases e), (fun n m b c bl z y e => by cases e), (fun g cs e => ?_), Nat.le_refl _⟩, ⟨⟨?_, fun t ht => ?_⟩, [], rfl, rfl, fun i m D e => by simp [dd0A] at e⟩, .refl W⟩
    · obtain ⟨h1, C, t, f, h3, h4⟩ := hG g cs e
      exact ⟨h1, C, t, f, h3, h4 _⟩
    · show (#[Value.int .u64 (I.n0 : Int), .int .u64 (I.tk : Int), .int .i64 I.fr, .int .i64 I.cr, V4] ++ Array.replicate (Tryz.f5.ntmps - 5) undef).size = 255
      rw [f5_nt, Array.size_append, Array.size_replicate]; rfl
    · have hfl : flat dd0A.tmps = [.int .u64 (.atom 9), .int .u64 (.atom 2), .int .i64 (.atom 3), .int .i64 (.atom 4), .top 80 (.atom 35)] ++ List.replicate 251 undefS := by rfl
      rw [hfl]
      show ∃ s U, ([SV.int .u64 (.atom 9), .int .u64 (.atom 2), .int .i64 (.atom 3), .int .i64 (.atom 4), .top 80 (.atom 35)] ++ List.replicate 251 undefS)[t]? = some s ∧ (#[Value.int .u64 (I.n0 : Int), .int .u64 (I.tk : Int), .int .i64 I.fr, .int .i64 I.cr, V4] ++ Array.replicate (Tryz.f5.ntmps - 5) undef)[t]? = some U ∧ DRep I.q0.V (fun _ => Option.none) s U
      rw [f5_nt]
      by_cases ht3 : t < 5
      · rw [List.getElem?_append_left (by simpa using ht3), Array.getElem?_append_left (by simpa using ht3)]
        match t, ht3 with
        | 0, _ => exact ⟨.int .u64 (.atom 9), .int .u64 (I.n0 : Int), rfl, rfl, .inr (by simp only [Rep, SInt.val]; rw [v9])⟩
        | 1, _ => exact ⟨.int .u64 (.atom 2), .int .u64 (I.tk : Int), rfl, rfl, .inr (by simp only [Rep, SInt.val]; rw [v2])⟩
        | 2, _ => exact ⟨.int .i64 (.atom 3), .int .i64 I.fr, rfl, rfl, .inr (by simp only [Rep, SInt.val]; rw [v3])⟩
        | 3, _ => exact ⟨.int .i64 (.atom 4), .int .i64 I.cr, rfl, rfl, .inr (by simp only [Rep, SInt.val]; rw [v4])⟩
        | 4, _ => exact ⟨.top 80 (.atom 35), V4, rfl, rfl, .inr (by simp only [Rep, SInt.val]; exact ⟨_, h4, v35⟩)⟩
      · refine ⟨undefS, undef, ?_, ?_, .inr (undef_rep _)⟩
        · rw [List.getElem?_append_right (by simp; omega), List.getElem?_replicate, if_pos (by simp; omega)]
        · rw [Array.getElem?_append_right (by simp; omega), Array.getElem?_replicate, if_pos (by simp; omega)]
  obtain ⟨a1, s1, c1, f1⟩ := pro1 hI W.heap.size
  obtain ⟨E, hg, a2, s2, c2, f2⟩ := pro2 hI W.heap.size
  rw [ddBody_eq]
  refine ChainG.wp (E := envD 9 I.ok) rfl c1 (rest := .seq (ddAt 5) (.seq (ddAt 6) (.seq (ddAt 7) (.seq (ddAt 8) (.seq (ddAt 9) (.seq (ddAt 10) (.seq (ddAt 11) (.seq (ddAt 12) (.seq (.seq (hdP (ddAt 13)) (.block 0 (.loop ddLoop))) ddEnd))))))))) k0 (fun act w k => ?_)
  have k := f1 _ _ _ k
  obtain ⟨b1, t1, l1, b2, t2, l2, b3, t3, l3, b4, t4, l4, b5, t5, l5, b6, t6, l6, b7, t7, l7, b8, t8, l8, b9, t9, l9, x1, x2⟩ := c2
  subst x1; subst x2
  refine wpIn_seq (AtG.lands hg l1 k fun act1 w1 k1 => wpIn_seq (AtG.lands hg l2 k1 fun act2 w2 k2 => wpIn_seq (AtG.lands hg l3 k2 fun act3 w3 k3 => wpIn_seq (AtG.lands hg l4 k3 fun act4 w4 k4 => wpIn_seq (AtG.lands hg l5 k4 fun act5 w5 k5 => wpIn_seq (AtG.lands hg l6 k5 fun act6 w6 k6 => wpIn_seq (AtG.lands hg l7 k6 fun act7 w7 k7 => wpIn_seq (AtG.lands hg l8 k7 fun act8 w8 k8 => wpIn_seq (wpIn_seq (AtG.lands hg l9 k8 fun act9 w9 k9 => ?_))))))))))
  exact loop_at hI (inv0 hI) hW (f2 _ _ _ k9) hR (fun act' w' h => h)
end Go.Ev
