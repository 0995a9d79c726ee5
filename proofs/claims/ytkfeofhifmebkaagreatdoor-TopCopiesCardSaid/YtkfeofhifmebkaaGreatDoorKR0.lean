/- The tops: a verified evaluator of the program (KR0). -/
import Derived.Test.YtkfeofhifmebkaaGreatDoorKF
import Derived.Test.YtkfeofhifmebkaaGreatDoorKQ
set_option maxRecDepth 100000
namespace Go.Ev
open Go Go.Proofs
/-! one region walked by hand: the deed that is met -/
theorem op_step {P : Program} {o : Oper} {act : Act} {w w' : World} {V : Value} {F : Fence} {n : Nat} {K : Act → World → Prop} {Q : Exit → Act → World → Prop} (hF : OkF F) (hd : ∀ c, o.op ≠ .defer c) (h : (execOp act.eval o).run P w = .ok (.value V) w') (hK : K (act.put o.dst V) w') : o.wpIn F n P act w K Q := by
  refine ⟨fun f _ => hF.fn f, ?_⟩
  rw [Oper.semAt_eq _ _ _ hd, h]
  exact hK
theorem list_step {P : Program} {ops : Array Oper} {rest : List Oper} {o : Oper} {act : Act} {w w' : World} {V : Value} {F : Fence} {n : Nat} {Q : Exit → Act → World → Prop} (hF : OkF F) (hg : o.guard = none) (hd : ∀ c, o.op ≠ .defer c) (h : (execOp act.eval o).run P w = .ok (.value V) w') (hK : wpListIn F n P ops Q rest (act.put o.dst V) w') : wpListIn F n P ops Q (o :: rest) act w := by
  simp only [wpListIn, hg, Region.wanted, if_true]
  exact op_step hF hd h hK
theorem put_at (act : Act) (t : Nat) (V : Value) (h : t < act.tmps.size) : (act.put (some t) V).eval (.tmp t) = V := by
  simp [Act.put, Act.eval, h]
theorem put_ne (act : Act) (t u : Nat) (V : Value) (h : t ≠ u) : (act.put (some t) V).eval (.tmp u) = act.eval (.tmp u) := by
  simp [Act.put, Act.eval, Array.getElem?_setIfInBounds_ne h]
theorem put_size (act : Act) (t : Nat) (V : Value) : (act.put (some t) V).tmps.size = act.tmps.size := by
  simp [Act.put]
theorem RepA.dead {ν : Nat → Int} {σ : Sg} {nt : Nat} {a : A} {act : Act} (k : RepA ν σ nt a act) {t : Nat} (h : (flat a.tmps)[t]? = some .dead) (V : Value) : RepA ν σ nt a (act.put (some t) V) := by
  refine ⟨⟨by rw [put_size]; exact k.tmps.1, fun u hu => ?_⟩, k.defers⟩
  obtain ⟨s, W, h1, h2, h3⟩ := k.tmps.2 u hu
  by_cases e : t = u
  · subst e
    have hl : t < act.tmps.size := by rw [k.tmps.1]; exact hu
    exact ⟨s, V, h1, by simp [Act.put, hl], .inl (by rw [h] at h1; exact (Option.some.inj h1).symm)⟩
  · exact ⟨s, W, h1, by simp [Act.put, Array.getElem?_setIfInBounds_ne e, h2], h3⟩
def deedV (d : Nat → Int) : Value := .agg #[.int .i64 (d 0), .int .i64 (d 1), .int .i64 (d 2), .int .i64 (d 3)]
theorem reg18_wp {E : Env} (hty : E.ty = tyT) {ν : Nat → Int} (hE : EOk Tryz.prog E ν) {F : Fence} (hF : OkF F) {n : Nat} {ops : Array Oper} {oa ob oc od : Oper} {rest : List Oper}
    (h0 : oa.op = .move (.tmp 2) ∧ oa.guard = none ∧ oa.dst = some 72) (h1 : ob.op = .move (.tmp 13) ∧ ob.guard = none ∧ ob.dst = some 73)
    (h2 : oc.op = .indexAddr 68 (.tmp 72) (.tmp 73) ∧ oc.guard = none ∧ oc.dst = some 74) (h3 : od.op = .load 71 (.tmp 74) ∧ od.guard = none ∧ od.dst = some 75)
    {act : Act} {w : World} {b off l c i : Nat} {d : Nat → Int} (hn : act.tmps.size = 268) (e2 : act.eval (.tmp 2) = .slice (some ⟨b, off, none⟩) l c) (e13 : act.eval (.tmp 13) = .int .i64 (i : Int)) (hi : i < l)
    (hc : ∀ j, j < 4 → w.cell? ⟨b, off + i * 4 + j, none⟩ = some (.int .i64 (d j))) {Q : Exit → Act → World → Prop}
    (hQ : ∀ V0 V1 V2, wpListIn F n Tryz.prog ops Q rest ((((act.put (some 72) V0).put (some 73) V1).put (some 74) V2).put (some 75) (deedV d)) w) : wpListIn F n Tryz.prog ops Q (oa :: ob :: oc :: od :: rest) act w := by
  have hu : Tryz.prog.underlying 68 = some (.slice 71) := by kernel_rfl
  obtain ⟨i71, h71, s71, a71⟩ : ∃ i71, getT E.ty 71 = some i71 ∧ i71.size = 4 ∧ i71.agg = true := by rw [hty]; exact ⟨.mk Tryz.t70.desc Tryz.t71.size Tryz.t71.bytes true Tryz.t71.zero, by kernel_rfl, by kernel_rfl, by kernel_rfl⟩
  refine list_step (w' := w) hF h0.2.1 (fun c e => by rw [h0.1] at e; cases e) (V := act.eval (.tmp 2)) (by simp [execOp, h0.1]) ?_
  rw [h0.2.2]
  refine list_step (w' := w) hF h1.2.1 (fun c e => by rw [h1.1] at e; cases e) (V := act.eval (.tmp 13)) (by simp [execOp, h1.1, put_ne]) ?_
  rw [h1.2.2]
  refine list_step (w' := w) hF h2.2.1 (fun c e => by rw [h2.1] at e; cases e) (V := .pointer (some ⟨b, off + i * 4, none⟩)) ?_ ?_
  · have q1 : ((act.put (some 72) (act.eval (.tmp 2))).put (some 73) (act.eval (.tmp 13))).eval (.tmp 72) = .slice (some ⟨b, off, none⟩) l c := by
      rw [put_ne _ _ _ _ (by decide), put_at _ _ _ (by omega), e2]
    have q2 : ((act.put (some 72) (act.eval (.tmp 2))).put (some 73) (act.eval (.tmp 13))).eval (.tmp 73) = .int .i64 (i : Int) := by
      rw [put_at _ _ _ (by rw [put_size]; omega), e13]
    have q3 : (Instr.indexAt 68 (.slice (some ⟨b, off, none⟩) l c) (.int .i64 (i : Int))).run Tryz.prog w = .ok (.pointer (some ⟨b, off + i * 4, none⟩)) w := by
      simp [Instr.indexAt, asIntOf, run_underlying hu, hE.size h71, s71, hi, Addr.add_eq]
    simp [execOp, h2.1, q1, q2, q3]
  rw [h2.2.2]
  refine list_step (w' := w) hF h3.2.1 (fun c e => by rw [h3.1] at e; cases e) (V := deedV d) ?_ ?_
  · have q1 : (((act.put (some 72) (act.eval (.tmp 2))).put (some 73) (act.eval (.tmp 13))).put (some 74) (.pointer (some ⟨b, off + i * 4, none⟩))).eval (.tmp 74) = .pointer (some ⟨b, off + i * 4, none⟩) := by
      rw [put_at _ _ _ (by rw [put_size, put_size]; omega)]
    have q2 := run_loadCells_list (P := Tryz.prog) w ⟨b, off + i * 4, none⟩ [.int .i64 (d 0), .int .i64 (d 1), .int .i64 (d 2), .int .i64 (d 3)] (fun j V hj => by
      rw [Addr.add_eq]
      match j, hj with
      | 0, hj => cases hj; exact hc 0 (by decide)
      | 1, hj => cases hj; exact hc 1 (by decide)
      | 2, hj => cases hj; exact hc 2 (by decide)
      | 3, hj => cases hj; exact hc 3 (by decide)
      | j + 4, hj => simp at hj)
    have q3 : (Instr.loadAt 71 (.pointer (some ⟨b, off + i * 4, none⟩))).run Tryz.prog w = .ok (deedV d) w := by
      have : (loadVar 71 ⟨b, off + i * 4, none⟩).run Tryz.prog w = .ok (deedV d) w := by
        simp only [List.length_cons, List.length_nil] at q2
        simp [loadVar, hE.isAgg h71, hE.size h71, s71, a71, q2, deedV]
      simp [Instr.loadAt, Instr.sureAddr, this]
    simp [execOp, h3.1, q1, q3]
  rw [h3.2.2]
  exact hQ _ _ _
end Go.Ev
set_option maxRecDepth 100000
namespace Go.Ev
open Go Go.Proofs
noncomputable section
/-! the choice of a step: pieces and runs -/
def cpHead : Code := hdC cpLoop
def cp16 : Code := hdC cpIn
def cp17 : Code := hdC (tlC cpIn)
def cpR17 : Code := hdC cp17
def cdT : Code → Code
  | .cond _ a _ => a
  | c => c
def cdE : Code → Code
  | .cond _ _ b => b
  | c => c
/-- what is made of a deed -/
def cpX : Code := cdT (tlC cp17)
def cp18 : Code := hdC cpX
def cp19 : Code := hdC (tlC cpX)
def cp20 : Code := hdC (tlC (tlC cpX))
def cpB2 : Code := tlC (tlC (tlC cpX))
def idR : Nat → List (Nat × Nat)
  | 0 => []
  | n + 1 => (n, n) :: idR n
def at2 (n m : Nat) : SInt × SInt := (.atom n, .atom m)
def intsC : List (SInt × SInt) := [at2 3 3, at2 5000 5000, at2 54 54, at2 55 55, at2 52 52, at2 60 60, at2 61 61]
def csCh (l60 ltd l40 : Option Bool) (kd r : Option Nat) : Cs := ⟨false, 0, [], l60, ltd, l40, kd, r, Option.none, 63, Option.none⟩
def numX (kind : Nat) : SInt := match kind with
  | 1 => .lit 0
  | _ => .atom 51
def okA (k : Nat) (ltd l40 : Option Bool) (r kind : Nat) : Bool :=
  isOkB (runCs (sfC (csCh (some true) ltd l40 Option.none (some r)) 0 9 99) 6 [cpHead, cp16, cp17] (stA k) (stS k) (finR ((2991, 3001) :: idR 46) (at2 63 51 :: intsC) true true [(5000, 0, 5000)] (set14 (stA k)) (stepS kind (numX kind) (stS k))))
def set15 (a : A) : A := match a with
  | ⟨c0 :: .mk a b c d e f g _ :: l, m⟩ => ⟨c0 :: .mk a b c d e f g (.ptr 3000 0) :: l, m⟩
  | a => a
def set71G : List C8 → List C8
  | a :: b :: c :: d :: e :: f :: g :: h :: .mk p q r s t u v _ :: l => a :: b :: c :: d :: e :: f :: g :: h :: .mk p q r s t u v (.bool true) :: l
  | l => l
def set71 (a : A) : A := match a with
  | ⟨l, m⟩ => ⟨set71G l, m⟩
def okB (k : Nat) : Bool :=
  isOkB (runCs (sfC (csCh (some true) (some true) (some true) Option.none Option.none) 0 9 99) 6 [cpHead, cp16, cpR17] (stA k) (stS k) (finR ((2991, 3001) :: idR 46) intsC true true [(5000, 0, 5000)] (set71 (set14 (stA k))) (stepS 1 (.lit 0) (stS k))))
def deedS (s : St) : St := match s with
  | ⟨h, _⟩ => setTK h 3000 (some (.cells [.int .i64 (.atom 36), .int .i64 (.atom 37), .int .i64 (.atom 38), .int .i64 (.atom 39)] 71)) fun h => ⟨h, 3001⟩
def okC (k kd : Nat) : Bool :=
  isOkB (runCs (sfC (csCh Option.none Option.none Option.none (some kd) Option.none) 0 9 99) 6 [cp19, cp20, cpB2] (set15 (set14 (stA k))) (deedS (stepS 1 (.lit 0) (stS k))) (finR ((2990, 3001) :: (2991, 2991) :: idR 46) (at2 50 50 :: at2 (match kd with | 0 => 62 | _ => 59) 51 :: intsC) true true [(5000, 0, 5000)] (set14 (stA k)) (stepS (kindD kd) (numX (kindD kd)) (stS k))))
/-! the deed that is met: region 18 -/
def opsOf : Code → List Oper
  | .region _ ops _ => ops.toList
  | _ => []
def ops18 : List Oper := opsOf cp18
def opr (j : Nat) : Oper := (ops18[j]?).getD default
def isDn (o : Option SV) : Bool := match o with
  | some v => match v with
    | .dead => true
    | _ => false
  | Option.none => false
def isV (o : Option SV) (v : SV) : Bool := match o with
  | some u => beqSV u v
  | Option.none => false
def isTop (o : Option SV) : Bool := match o with
  | some u => match u with
    | .top x => isAt x 35
    | _ => false
  | Option.none => false
def fl (k : Nat) : List SV := flat (set71 (set14 (stA k))).tmps
def okD (k : Nat) : Bool := and3 (and3 (isDn (getL (fl k) 72)) (isDn (getL (fl k) 73)) (isDn (getL (fl k) 74))) (isTop (getL (fl k) 2)) (isV (getL (fl k) 13) (.int .i64 (.atom 3)))
def okTm (k : Nat) : Bool := and3 (isV (getL (fl k) 71) (.bool true)) (isV (getL (flat (stA k).tmps) 13) (.int .i64 (.atom 3))) true
def okR (k : Nat) : Bool :=
  isOkB ((putS 268 (some 75)).run (set71 (set14 (stA k))) (.agg [.int .i64 (.atom 36), .int .i64 (.atom 37), .int .i64 (.atom 38), .int .i64 (.atom 39)]) fun a =>
    (regC (envC (csCh Option.none Option.none Option.none Option.none Option.none) 0 9 99) 268 ops18 [opr 4, opr 5]).run (sfC (csCh Option.none Option.none Option.none Option.none Option.none) 0 9 99) a (stepS 1 (.lit 0) (stS k))
      (finR ((3000, 3000) :: (2991, 2991) :: idR 46) (at2 36 36 :: at2 37 37 :: at2 38 38 :: at2 39 39 :: intsC) true true [(5000, 0, 5000)] (set15 (set14 (stA k))) (deedS (stepS 1 (.lit 0) (stS k)))))
/-- the loop's end -/
def cpEnd : Code := cpAt 11
def okL (k : Nat) : Bool :=
  isOkB ((sfC (csCh (some false) Option.none Option.none Option.none Option.none) 0 9 99).code 6 cpHead Option.none (stA k) (stS k) fun e a st => match e with
    | .exit j => match Nat.beq j 0 with
      | true => finR (idR 46) intsC true true [(5000, 0, 5000)] (stA k) (stS k) a st
      | false => .err "exit"
    | _ => .err "no exit")
end
end Go.Ev
