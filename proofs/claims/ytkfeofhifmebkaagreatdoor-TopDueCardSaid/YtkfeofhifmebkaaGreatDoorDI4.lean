/- The tops: a verified evaluator of the program (DI4). -/
import Derived.Test.YtkfeofhifmebkaaGreatDoorDI3
set_option maxRecDepth 100000
namespace Go.Ev
open Go Go.Proofs
noncomputable section
/-! TopDue: clock.Deadline, and the document's -/
/-- the case: absolute; now < d; d < now; too far; which of now, d, their sum is the greatest number -/
structure Dc where
  abs : Bool
  lt : Bool
  gt : Bool
  ov : Bool
  m1 : Bool
  m2 : Bool
  m3 : Bool
def mxL : SInt := .lit 18446744073709551615
def tw32 : SInt := .lit 4294967296
def dlRules (c : Dc) : List Rl := match c with
  | ⟨_, lt, gt, ov, m1, m2, m3⟩ => [rl .lss .u64 (.atom 9) (.atom 2) (.b lt), rl .geq .u64 (.atom 9) (.atom 2) (.b (notB lt)), rl .lss .u64 (.atom 2) (.atom 9) (.b gt), rl .sub .u64 mxL (.atom 9) (.n (.atom 22)), rl .gtr .u64 (.atom 2) (.atom 22) (.b ov), rl .add .u64 (.atom 9) (.atom 2) (.n (.atom 23)),
    rl .eql .u64 (.atom 9) mxL (.b m1), rl .eql .u64 (.atom 2) mxL (.b m2), rl .eql .u64 (.atom 23) mxL (.b m3),
    rl .rem .u64 (.atom 9) tw32 (.n (.atom 24)), rl .rem .u64 (.atom 2) tw32 (.n (.atom 25)), rl .add .u64 (.atom 24) (.atom 25) (.n (.atom 26)), rl .quo .u64 (.atom 9) tw32 (.n (.atom 27)), rl .quo .u64 (.atom 2) tw32 (.n (.atom 28)), rl .add .u64 (.atom 27) (.atom 28) (.n (.atom 29)),
    rl .quo .u64 (.atom 26) tw32 (.n (.atom 32)), rl .add .u64 (.atom 29) (.atom 32) (.n (.atom 33)), rl .geq .u64 (.atom 33) tw32 (.b ov), rl .mul .u64 (.atom 33) tw32 (.n (.atom 34)), rl .rem .u64 (.atom 26) tw32 (.n (.atom 36)), rl .add .u64 (.atom 34) (.atom 36) (.n (.atom 23))]
  where notB : Bool → Bool
  | true => false
  | false => true
def dlEnv (c : Dc) : Env := ⟨tyT, fnT, glob0f, fun _ => Option.none, rSym (dlRules c) [], fun _ _ _ => Option.none, simpleF, fun _ _ => Option.none⟩
def errP : SV := .tup [.int .u64 (.lit 0), i64L 12]
def okP (x : SInt) : SV := .tup [.int .u64 x, i64L 0]
def orT (a : Bool) (b : SV) : SV := match a with
  | true => errP
  | false => b
/-- what the program's answers -/
def expP (c : Dc) : SV := match c with
  | ⟨abs, lt, _, ov, m1, m2, m3⟩ => orT m1 (match abs with
    | true => match lt with
      | true => orT m2 (okP (.atom 2))
      | false => okP (.atom 9)
    | false => match ov with
      | true => errP
      | false => orT m3 (okP (.atom 23)))
/-- what the document's answers -/
def expR (c : Dc) : SV := match c with
  | ⟨abs, _, gt, ov, m1, m2, m3⟩ => orT m1 (match abs with
    | true => match gt with
      | true => okP (.atom 9)
      | false => orT m2 (okP (.atom 2))
    | false => match ov with
      | true => errP
      | false => orT m3 (okP (.atom 23)))
def dcOk (c : Dc) : Bool := match isOkB ((selfN (dlEnv c) 100000).call 498 [u64A 9, u64A 2, .bool c.abs] ⟨.leaf, 0⟩ (endV (expP c))) with
  | true => isOkB ((selfN (dlEnv c) 100000).call 22 [u64A 9, u64A 2, .bool c.abs] ⟨.leaf, 0⟩ (endV (expR c)))
  | false => false
def both (f : Bool → Bool) : Bool := match f true with
  | true => f false
  | false => false
end
theorem dc_all : both (fun a => both fun b => both fun c => both fun d => both fun e => both fun f => both fun g => dcOk ⟨a, b, c, d, e, f, g⟩) = true := by kernel_rfl
theorem both_at {f : Bool → Bool} (h : both f = true) (b : Bool) : f b = true := by
  unfold both at h
  split at h
  · rename_i g; cases b
    · exact h
    · exact g
  · cases h
end Go.Ev
set_option maxRecDepth 100000
namespace Go.Ev
open Go Go.Proofs
/-! TopDue: soundness of the deadlines -/
def atN (q : Dn) : Nat := if q.fl % 2 = 1 then max q.n0 q.tk else q.n0 + q.tk
structure DlOk (q : Dn) (ok : Bool) : Prop where
  is : ok = decide (((q.n0 : Nat) : Int) < 18446744073709551615 ∧ ((atN q : Nat) : Int) < 18446744073709551615)
  dl : ok = true → q.dl = atN q
def hiL (q : Dn) : Int := (q.n0 : Int) % 4294967296 + (q.tk : Int) % 4294967296
def hiH (q : Dn) : Int := (q.n0 : Int) / 4294967296 + (q.tk : Int) / 4294967296
def nuDl (q : Dn) (i : Nat) : Int :=
  if i = 9 then (q.n0 : Int) else if i = 2 then (q.tk : Int) else if i = 22 then 18446744073709551615 - (q.n0 : Int) else if i = 23 then IntKind.u64.wrap ((q.n0 : Int) + q.tk)
  else if i = 24 then (q.n0 : Int) % 4294967296 else if i = 25 then (q.tk : Int) % 4294967296 else if i = 26 then hiL q
  else if i = 27 then (q.n0 : Int) / 4294967296 else if i = 28 then (q.tk : Int) / 4294967296 else if i = 29 then hiH q
  else if i = 32 then hiL q / 4294967296 else if i = 33 then hiH q + hiL q / 4294967296
  else if i = 34 then IntKind.u64.wrap ((hiH q + hiL q / 4294967296) * 4294967296) else if i = 36 then hiL q % 4294967296 else 0
noncomputable def caseD (q : Dn) : Dc := ⟨decide (q.fl % 2 = 1), decide ((q.n0 : Int) < q.tk), decide ((q.tk : Int) < q.n0), decide (18446744073709551615 - (q.n0 : Int) < q.tk), decide ((q.n0 : Int) = 18446744073709551615), decide ((q.tk : Int) = 18446744073709551615), decide (IntKind.u64.wrap ((q.n0 : Int) + q.tk) = 18446744073709551615)⟩
theorem wrapU_eq (x : Int) : IntKind.u64.wrap x = x % 18446744073709551616 := by
  simp only [IntKind.wrap, IntKind.bits, IntKind.signed, Bool.false_and, Bool.false_eq_true, if_false]
  rfl
theorem nd9 (q : Dn) : nuL (nuDl q) 9 = q.n0 := rfl
theorem nd2 (q : Dn) : nuL (nuDl q) 2 = q.tk := rfl
theorem nd22 (q : Dn) : nuL (nuDl q) 22 = 18446744073709551615 - (q.n0 : Int) := rfl
theorem nd23 (q : Dn) : nuL (nuDl q) 23 = IntKind.u64.wrap ((q.n0 : Int) + q.tk) := rfl
theorem nd24 (q : Dn) : nuL (nuDl q) 24 = (q.n0 : Int) % 4294967296 := rfl
theorem nd25 (q : Dn) : nuL (nuDl q) 25 = (q.tk : Int) % 4294967296 := rfl
theorem nd26 (q : Dn) : nuL (nuDl q) 26 = hiL q := rfl
theorem nd27 (q : Dn) : nuL (nuDl q) 27 = (q.n0 : Int) / 4294967296 := rfl
theorem nd28 (q : Dn) : nuL (nuDl q) 28 = (q.tk : Int) / 4294967296 := rfl
theorem nd29 (q : Dn) : nuL (nuDl q) 29 = hiH q := rfl
theorem nd32 (q : Dn) : nuL (nuDl q) 32 = hiL q / 4294967296 := rfl
theorem nd33 (q : Dn) : nuL (nuDl q) 33 = hiH q + hiL q / 4294967296 := rfl
theorem nd34 (q : Dn) : nuL (nuDl q) 34 = IntKind.u64.wrap ((hiH q + hiL q / 4294967296) * 4294967296) := by
  unfold nuL nuDl
  rw [if_neg (by omega), if_neg (by omega), if_neg (by omega), if_neg (by omega), if_neg (by omega), if_neg (by omega), if_neg (by omega), if_neg (by omega), if_neg (by omega), if_neg (by omega), if_neg (by omega), if_neg (by omega), if_neg (by omega), if_pos (by omega)]
theorem nd36 (q : Dn) : nuL (nuDl q) 36 = hiL q % 4294967296 := rfl
theorem dlS_ok {q : Dn} (hq : q.Ok) {base : Nat} : SelfOk Tryz.prog (dlEnv (caseD q)) (nuL (nuDl q)) base (selfN (dlEnv (caseD q)) 100000) := by
  obtain ⟨hT, hN, _⟩ := hq.u64
  refine selfN_ok (eok (fun op k x j y v e => rSym_ok (fun r hr => ?_) (fun g hg => by cases hg) (nuL_log _) e) (fun k j x v e => by cases e) (fun a j b e => by cases e)) (fun g x hx => by cases hx) _
  have nb : ∀ b, dlRules.notB b = !b := fun b => by cases b <;> rfl
  have hn0 : (0 : Int) ≤ q.n0 ∧ (q.n0 : Int) < 18446744073709551616 := by omega
  have ht0 : (0 : Int) ≤ q.tk ∧ (q.tk : Int) < 18446744073709551616 := by omega
  have hs : (hiH q + hiL q / 4294967296) * 4294967296 + hiL q % 4294967296 = (q.n0 : Int) + q.tk := by unfold hiH hiL; omega
  have hL0 : 0 ≤ hiL q ∧ hiL q < 8589934592 := by unfold hiL; omega
  have hH0 : 0 ≤ hiH q ∧ hiH q < 8589934592 := by unfold hiH; omega
  clear hT hN
  simp only [dlRules, caseD, rl, mxL, tw32, List.mem_cons, List.not_mem_nil, or_false] at hr
  rcases hr with rfl | rfl | rfl | rfl | rfl | rfl | rfl | rfl | rfl | rfl | rfl | rfl | rfl | rfl | rfl | rfl | rfl | rfl | rfl | rfl | rfl <;> simp only [RlOk, rlV, SInt.val]
  · exact symLss (by rw [nd9, nd2])
  · exact symGeq (by rw [nb, nd9, nd2])
  · exact symLss (by rw [nd9, nd2])
  · exact symSub (by simp only [SInt.val, nd9, nd22]; rw [wrap_u (by omega) (by omega)])
  · exact symGtr (by rw [nd22, nd2])
  · exact symAdd (by simp only [SInt.val, nd9, nd2, nd23])
  · exact symEql (by rw [nd9])
  · exact symEql (by rw [nd2])
  · exact symEql (by rw [nd23])
  · exact symRem (by omega) (by simp only [SInt.val, nd9, nd24]; exact (Int.tmod_eq_emod_of_nonneg hn0.1).symm)
  · exact symRem (by omega) (by simp only [SInt.val, nd2, nd25]; exact (Int.tmod_eq_emod_of_nonneg ht0.1).symm)
  · exact symAdd (by simp only [SInt.val, nd24, nd25, nd26]; rw [wrap_u (by omega) (by omega)]; rfl)
  · exact symQuo (by omega) (by simp only [SInt.val, nd9, nd27]; rw [Int.tdiv_eq_ediv_of_nonneg hn0.1, wrap_u (by omega) (by omega)])
  · exact symQuo (by omega) (by simp only [SInt.val, nd2, nd28]; rw [Int.tdiv_eq_ediv_of_nonneg ht0.1, wrap_u (by omega) (by omega)])
  · exact symAdd (by simp only [SInt.val, nd27, nd28, nd29]; rw [wrap_u (by omega) (by omega)]; rfl)
  · exact symQuo (by omega) (by simp only [SInt.val, nd26, nd32]; rw [Int.tdiv_eq_ediv_of_nonneg hL0.1, wrap_u (by omega) (by omega)])
  · exact symAdd (by simp only [SInt.val, nd29, nd32, nd33]; rw [wrap_u (by omega) (by omega)])
  · refine symGeq ?_
    rw [nd33]
    by_cases g : 18446744073709551615 - (q.n0 : Int) < q.tk
    · rw [decide_eq_true g, decide_eq_false (by omega)]; rfl
    · rw [decide_eq_false g, decide_eq_true (by omega)]; rfl
  · exact symMul (by simp only [SInt.val, nd33, nd34])
  · exact symRem (by omega) (by simp only [SInt.val, nd26, nd36]; exact (Int.tmod_eq_emod_of_nonneg hL0.1).symm)
  · exact symAdd (by simp only [SInt.val, nd34, nd36, nd23]; rw [wrapU_eq, wrapU_eq, wrapU_eq]; omega)
theorem expP_ok {q : Dn} (hq : q.Ok) {ok : Bool} (h : DlOk q ok) : (ok = true → ∃ x, expP (caseD q) = okP x ∧ x.val (nuL (nuDl q)) = q.dl) ∧ (ok = false → expP (caseD q) = errP) := by
  obtain ⟨hT, hN, _⟩ := hq.u64
  have e23 : nuL (nuDl q) 23 = IntKind.u64.wrap ((q.n0 : Int) + q.tk) := rfl
  have h1 := h.is
  have h2 := h.dl
  unfold atN at h1 h2
  simp only [expP, caseD]
  by_cases c1 : (q.n0 : Int) = 18446744073709551615
  · rw [decide_eq_true c1]
    rw [decide_eq_false (by omega)] at h1
    subst h1
    exact ⟨fun e => (by cases e), fun _ => rfl⟩
  · rw [decide_eq_false c1]
    simp only [orT]
    by_cases c2 : q.fl % 2 = 1
    · rw [decide_eq_true c2]
      rw [if_pos c2] at h1 h2
      dsimp only
      by_cases c3 : (q.n0 : Int) < q.tk
      · rw [decide_eq_true c3]
        dsimp only
        by_cases c4 : (q.tk : Int) = 18446744073709551615
        · rw [decide_eq_true c4]
          rw [decide_eq_false (by omega)] at h1
          subst h1
          exact ⟨fun e => (by cases e), fun _ => rfl⟩
        · rw [decide_eq_false c4]
          rw [decide_eq_true (by omega)] at h1
          subst h1
          refine ⟨fun _ => ⟨.atom 2, rfl, ?_⟩, fun e => (by cases e)⟩
          rw [h2 rfl]; show (q.tk : Int) = _; omega
      · rw [decide_eq_false c3]
        dsimp only
        rw [decide_eq_true (by omega)] at h1
        subst h1
        refine ⟨fun _ => ⟨.atom 9, rfl, ?_⟩, fun e => (by cases e)⟩
        rw [h2 rfl]; show (q.n0 : Int) = _; omega
    · rw [decide_eq_false c2]
      rw [if_neg c2] at h1 h2
      dsimp only
      by_cases c3 : 18446744073709551615 - (q.n0 : Int) < q.tk
      · rw [decide_eq_true c3]
        rw [decide_eq_false (by omega)] at h1
        subst h1
        exact ⟨fun e => (by cases e), fun _ => rfl⟩
      · rw [decide_eq_false c3]
        dsimp only
        have hw : IntKind.u64.wrap ((q.n0 : Int) + q.tk) = (q.n0 : Int) + q.tk := wrap_u (by omega) (by omega)
        by_cases c4 : IntKind.u64.wrap ((q.n0 : Int) + q.tk) = 18446744073709551615
        · rw [decide_eq_true c4]
          rw [hw] at c4
          rw [decide_eq_false (by omega)] at h1
          subst h1
          exact ⟨fun e => (by cases e), fun _ => rfl⟩
        · rw [decide_eq_false c4]
          rw [hw] at c4
          rw [decide_eq_true (by omega)] at h1
          subst h1
          refine ⟨fun _ => ⟨.atom 23, rfl, ?_⟩, fun e => (by cases e)⟩
          rw [h2 rfl]; show nuL (nuDl q) 23 = _; rw [e23, hw]; omega
theorem expR_ok {q : Dn} (hq : q.Ok) {ok : Bool} (h : DlOk q ok) : (ok = true → ∃ x, expR (caseD q) = okP x ∧ x.val (nuL (nuDl q)) = q.dl) ∧ (ok = false → expR (caseD q) = errP) := by
  obtain ⟨hT, hN, _⟩ := hq.u64
  have e23 : nuL (nuDl q) 23 = IntKind.u64.wrap ((q.n0 : Int) + q.tk) := rfl
  have h1 := h.is
  have h2 := h.dl
  unfold atN at h1 h2
  simp only [expR, caseD]
  by_cases c1 : (q.n0 : Int) = 18446744073709551615
  · rw [decide_eq_true c1]
    rw [decide_eq_false (by omega)] at h1
    subst h1
    exact ⟨fun e => (by cases e), fun _ => rfl⟩
  · rw [decide_eq_false c1]
    simp only [orT]
    by_cases c2 : q.fl % 2 = 1
    · rw [decide_eq_true c2]
      rw [if_pos c2] at h1 h2
      dsimp only
      by_cases c3 : (q.tk : Int) < q.n0
      · rw [decide_eq_true c3]
        dsimp only
        rw [decide_eq_true (by omega)] at h1
        subst h1
        refine ⟨fun _ => ⟨.atom 9, rfl, ?_⟩, fun e => (by cases e)⟩
        rw [h2 rfl]; show (q.n0 : Int) = _; omega
      · rw [decide_eq_false c3]
        dsimp only
        by_cases c4 : (q.tk : Int) = 18446744073709551615
        · rw [decide_eq_true c4]
          rw [decide_eq_false (by omega)] at h1
          subst h1
          exact ⟨fun e => (by cases e), fun _ => rfl⟩
        · rw [decide_eq_false c4]
          rw [decide_eq_true (by omega)] at h1
          subst h1
          refine ⟨fun _ => ⟨.atom 2, rfl, ?_⟩, fun e => (by cases e)⟩
          rw [h2 rfl]; show (q.tk : Int) = _; omega
    · rw [decide_eq_false c2]
      rw [if_neg c2] at h1 h2
      dsimp only
      by_cases c3 : 18446744073709551615 - (q.n0 : Int) < q.tk
      · rw [decide_eq_true c3]
        rw [decide_eq_false (by omega)] at h1
        subst h1
        exact ⟨fun e => (by cases e), fun _ => rfl⟩
      · rw [decide_eq_false c3]
        dsimp only
        have hw : IntKind.u64.wrap ((q.n0 : Int) + q.tk) = (q.n0 : Int) + q.tk := wrap_u (by omega) (by omega)
        by_cases c4 : IntKind.u64.wrap ((q.n0 : Int) + q.tk) = 18446744073709551615
        · rw [decide_eq_true c4]
          rw [hw] at c4
          rw [decide_eq_false (by omega)] at h1
          subst h1
          exact ⟨fun e => (by cases e), fun _ => rfl⟩
        · rw [decide_eq_false c4]
          rw [hw] at c4
          rw [decide_eq_true (by omega)] at h1
          subst h1
          refine ⟨fun _ => ⟨.atom 23, rfl, ?_⟩, fun e => (by cases e)⟩
          rw [h2 rfl]; show nuL (nuDl q) 23 = _; rw [e23, hw]; omega
theorem dc_at (q : Dn) : dcOk (caseD q) = true := both_at (both_at (both_at (both_at (both_at (both_at (both_at dc_all _) _) _) _) _) _) _
noncomputable def ansD (ok : Bool) : SV := match ok with
  | true => .tup [u64A 12, i64L 0]
  | false => .tup [.int .u64 (.lit 0), i64L 12]
theorem dl_lands {E : Env} (hg : E.glob = glob0f) {q : Dn} (hq : q.Ok) {ok : Bool} {f : FuncId} {ex : SV} (hrun : isOkB ((selfN (dlEnv (caseD q)) 100000).call f [u64A 9, u64A 2, .bool (caseD q).abs] ⟨.leaf, 0⟩ (endV ex)) = true)
    (hex : (ok = true → ∃ x, ex = okP x ∧ x.val (nuL (nuDl q)) = q.dl) ∧ (ok = false → ex = errP)) {base : Nat} (st : St) :
    CallLands Tryz.prog E q.V base f [u64A 9, u64A 2, .abool 49] st (ansD ok) st := by
  obtain ⟨out', h3⟩ := isOkB_ok hrun
  obtain ⟨v, st', h4, h5⟩ := (dlS_ok hq (base := base)).call h3
  have h4 := endV_ok h4
  subst h4
  have e9 : nuL (nuDl q) 9 = q.n0 := rfl
  have e2 : nuL (nuDl q) 2 = q.tk := rfl
  have e49 : decide (q.V 49 ≠ 0) = (caseD q).abs := by
    show _ = decide (q.fl % 2 = 1)
    by_cases g : q.fl % 2 = 1
    · rw [decide_eq_true g]; exact decide_eq_true (by rw [Dn.v49, if_pos g]; simp)
    · rw [decide_eq_false g]; exact decide_eq_false (by rw [Dn.v49, if_neg g]; simp)
  refine h5.closed2 (E' := dlEnv (caseD q)) hg.symm (globF hg) (fun σ L hL => ?_) (fun σ V hV τ => ?_) st
  · simp only [RepL, Rep, SInt.val, u64A, e9, e2, e49, Dn.v9, Dn.v2] at hL ⊢
    exact hL
  · cases ok with
    | true =>
      obtain ⟨x, rfl, hx⟩ := hex.1 rfl
      have e12 : (SInt.atom 12).val q.V = q.dl := Dn.v12 q
      simp only [okP, RepL, Rep, i64L, hx] at hV ⊢
      exact hV
    | false =>
      have := hex.2 rfl
      subst this
      simp only [errP, RepL, Rep, SInt.val, i64L] at hV ⊢
      exact hV
theorem dlI_ok {E : Env} (hg : E.glob = glob0f) {q : Dn} (hq : q.Ok) {ok : Bool} (hd : DlOk q ok) {base : Nat} {f : FuncId} (hf : f = 498 ∨ f = 22) {args : List SV} {st : St} {k : SV → St → R} {fb : Unit → R} {out} (h : (dlI ok).run args st k fb = .ok out) :
    (∃ v st', k v st' = .ok out ∧ CallLands Tryz.prog E q.V base f args st v st') ∨ fb () = .ok out := by
  unfold dlI at h
  dsimp only at h
  split at h
  case h_2 => exact .inr h
  rename_i i j b
  split at h
  case h_2 => exact .inr h
  rename_i g1
  split at h
  case h_2 => exact .inr h
  rename_i g2
  split at h
  case h_2 => exact .inr h
  rename_i g3
  have g1 := Nat.eq_of_beq_eq_true g1; subst g1
  have g2 := Nat.eq_of_beq_eq_true g2; subst g2
  have g3 := Nat.eq_of_beq_eq_true g3; subst g3
  have hdc := dc_at q
  unfold dcOk at hdc
  split at hdc
  case h_2 => cases hdc
  rename_i r1
  have key : CallLands Tryz.prog E q.V base f [u64A 9, u64A 2, .abool 49] st (ansD ok) st := by
    rcases hf with rfl | rfl
    · exact dl_lands hg hq r1 (expP_ok hq hd) st
    · exact dl_lands hg hq hdc (expR_ok hq hd) st
  cases ok with
  | true => exact .inl ⟨_, st, h, key⟩
  | false => exact .inl ⟨_, st, h, key⟩
end Go.Ev
set_option maxRecDepth 100000
namespace Go.Ev
open Go Go.Proofs
noncomputable section
/-! TopDue: the document's Place: Clamp as an intrinsic; level n, rounded up or not, cut or not -/
def gr8 : Nat → Int
  | 0 => 1
  | 1 => 8
  | 2 => 64
  | 3 => 512
  | 4 => 4096
  | 5 => 32768
  | 6 => 262144
  | _ => 2097152
def mx8 : Nat → Int
  | 0 => 18446744073709551615
  | 1 => 2305843009213693951
  | 2 => 288230376151711743
  | 3 => 36028797018963967
  | 4 => 4503599627370495
  | 5 => 562949953421311
  | 6 => 70368744177663
  | _ => 8796093022207
def plLss : Nat → Nat → List Rl → List Rl
  | 0, n, l => rl .lss .u64 (.atom 101) (.lit (gr8 n)) (.b true) :: l
  | m + 1, n, l => plLss m n (rl .lss .u64 (.atom 101) (.lit (gr8 (n - m - 1))) (.b false) :: l)
def plNum (up : Bool) : SInt := match up with
  | true => .atom 104
  | false => .atom 102
def plRules (n : Nat) (up cut : Bool) : List Rl := plLss n n [rl .eql .u64 (.atom 9) mxL (.b false), rl .sub .u64 (.atom 13) (.atom 9) (.n (.atom 100)), rl .quo .u64 (.atom 100) (.lit 63) (.n (.atom 101)),
  rl .quo .u64 (.atom 13) (.lit (gr8 n)) (.n (.atom 102)), rl .rem .u64 (.atom 13) (.lit (gr8 n)) (.n (.atom 103)), rl .gtr .u64 (.atom 103) (.lit 0) (.b up), rl .add .u64 (.atom 102) (.lit 1) (.n (.atom 104)),
  rl .rem .u64 (plNum up) (.lit 64) (.n (.atom 15)), rl .gtr .u64 (plNum up) (.lit (mx8 n)) (.b cut), rl .mul .u64 (plNum up) (.lit (gr8 n)) (.n (.atom 14))]
def plRng : List Rg := [⟨15, 0, 63⟩]
def clI : IX := ⟨fun args st k fb => match args with
  | [.int .u64 (.atom i), .int .u64 (.atom j), .int .u64 (.lit h)] => match Nat.beq i 9 with
    | true => match Nat.beq j 12 with
      | true => match eqI h 132120575 with
        | true => k (u64A 13) st
        | false => fb ()
      | false => fb ()
    | false => fb ()
  | _ => fb ()⟩
def intrPl (f : Nat) : Option IX := match Nat.beq f 38 with
  | true => some clI
  | false => Option.none
def plEnv (n : Nat) (up cut : Bool) : Env := ⟨tyT, fnT, glob0f, intrPl, rSym (plRules n up cut) plRng, rConv [] plRng, simpleF, fun _ _ => Option.none⟩
def plD (cut : Bool) : SV := match cut with
  | true => .int .u64 mxL
  | false => u64A 14
def plExp (n : Nat) (cut : Bool) : SV := .tup [.agg [.int .i64 (.lit (.ofNat n)), i64A 15, u64A 13, plD cut], i64L 0]
def plOk (n : Nat) (up cut : Bool) : Bool := isOkB ((selfN (plEnv n up cut) 100000).call 23 [u64A 9, u64A 12] ⟨.leaf, 0⟩ (endV (plExp n cut)))
end
theorem pl_all : allP 8 (fun n => both fun up => both fun cut => plOk n up cut) = true := by kernel_rfl
end Go.Ev
set_option maxRecDepth 100000
namespace Go.Ev
open Go Go.Proofs
noncomputable section
/-! TopDue: the document's Clamp: now + horizon too far, at < now + 1, more than the horizon -/
def hoL : SInt := .lit 132120575
def cAt (c1 : Bool) : SInt := match c1 with
  | true => .atom 115
  | false => .atom 12
def cHi (ov : Bool) : SInt := match ov with
  | true => mxL
  | false => .atom 125
def clRules (ov c1 c2 : Bool) : List Rl := [rl .rem .u64 (.atom 9) tw32 (.n (.atom 24)), rl .add .u64 (.atom 24) (.lit 1) (.n (.atom 110)), rl .quo .u64 (.atom 9) tw32 (.n (.atom 27)), rl .add .u64 (.atom 27) (.lit 0) (.n (.atom 27)),
  rl .quo .u64 (.atom 110) tw32 (.n (.atom 111)), rl .add .u64 (.atom 27) (.atom 111) (.n (.atom 112)), rl .geq .u64 (.atom 112) tw32 (.b false), rl .mul .u64 (.atom 112) tw32 (.n (.atom 113)), rl .rem .u64 (.atom 110) tw32 (.n (.atom 114)),
  rl .add .u64 (.atom 113) (.atom 114) (.n (.atom 115)), rl .add .u64 (.atom 24) hoL (.n (.atom 120)), rl .quo .u64 (.atom 120) tw32 (.n (.atom 121)), rl .add .u64 (.atom 27) (.atom 121) (.n (.atom 122)), rl .geq .u64 (.atom 122) tw32 (.b ov),
  rl .mul .u64 (.atom 122) tw32 (.n (.atom 123)), rl .rem .u64 (.atom 120) tw32 (.n (.atom 124)), rl .add .u64 (.atom 123) (.atom 124) (.n (.atom 125)), rl .lss .u64 (.atom 12) (.atom 115) (.b c1), rl .gtr .u64 (cAt c1) (cHi ov) (.b c2)]
def clEnv (ov c1 c2 : Bool) : Env := ⟨tyT, fnT, glob0f, fun _ => Option.none, rSym (clRules ov c1 c2) [], fun _ _ _ => Option.none, simpleF, fun _ _ => Option.none⟩
def clExp (ov c1 c2 : Bool) : SInt := match c2 with
  | true => cHi ov
  | false => cAt c1
def clOk (ov c1 c2 : Bool) : Bool := isOkB ((selfN (clEnv ov c1 c2) 100000).call 38 [u64A 9, u64A 12, .int .u64 hoL] ⟨.leaf, 0⟩ (endV (.int .u64 (clExp ov c1 c2))))
end
theorem cl_all : both (fun ov => both fun c1 => both fun c2 => clOk ov c1 c2) = true := by kernel_rfl
end Go.Ev
set_option maxRecDepth 100000
namespace Go.Ev
open Go Go.Proofs
/-! TopDue: soundness of the document's Clamp -/
def l1 (a : Nat) : Int := (a : Int) % 4294967296 + 1
def h1 (a : Nat) : Int := (a : Int) / 4294967296 + l1 a / 4294967296
def l2 (a : Nat) : Int := (a : Int) % 4294967296 + 132120575
def h2 (a : Nat) : Int := (a : Int) / 4294967296 + l2 a / 4294967296
def nuCl (a d : Nat) (i : Nat) : Int :=
  if i = 9 then (a : Int) else if i = 12 then (d : Int) else if i = 24 then (a : Int) % 4294967296 else if i = 27 then (a : Int) / 4294967296 else if i = 110 then l1 a else if i = 111 then l1 a / 4294967296 else if i = 112 then h1 a else if i = 113 then h1 a * 4294967296 else if i = 114 then l1 a % 4294967296 else if i = 115 then (a : Int) + 1 else if i = 120 then l2 a else if i = 121 then l2 a / 4294967296 else if i = 122 then h2 a else if i = 123 then IntKind.u64.wrap (h2 a * 4294967296) else if i = 124 then l2 a % 4294967296 else if i = 125 then IntKind.u64.wrap ((a : Int) + 132120575) else 0
theorem nc9 (a d : Nat) : nuL (nuCl a d) 9 = (a : Int) := by
  unfold nuL nuCl; rw [if_neg (by omega), if_pos (by omega)]
theorem nc12 (a d : Nat) : nuL (nuCl a d) 12 = (d : Int) := by
  unfold nuL nuCl; rw [if_neg (by omega), if_neg (by omega), if_pos (by omega)]
theorem nc24 (a d : Nat) : nuL (nuCl a d) 24 = (a : Int) % 4294967296 := by
  unfold nuL nuCl; rw [if_neg (by omega), if_neg (by omega), if_neg (by omega), if_pos (by omega)]
theorem nc27 (a d : Nat) : nuL (nuCl a d) 27 = (a : Int) / 4294967296 := by
  unfold nuL nuCl; rw [if_neg (by omega), if_neg (by omega), if_neg (by omega), if_neg (by omega), if_pos (by omega)]
theorem nc110 (a d : Nat) : nuL (nuCl a d) 110 = l1 a := by
  unfold nuL nuCl; rw [if_neg (by omega), if_neg (by omega), if_neg (by omega), if_neg (by omega), if_neg (by omega), if_pos (by omega)]
theorem nc111 (a d : Nat) : nuL (nuCl a d) 111 = l1 a / 4294967296 := by
  unfold nuL nuCl; rw [if_neg (by omega), if_neg (by omega), if_neg (by omega), if_neg (by omega), if_neg (by omega), if_neg (by omega), if_pos (by omega)]
theorem nc112 (a d : Nat) : nuL (nuCl a d) 112 = h1 a := by
  unfold nuL nuCl; rw [if_neg (by omega), if_neg (by omega), if_neg (by omega), if_neg (by omega), if_neg (by omega), if_neg (by omega), if_neg (by omega), if_pos (by omega)]
theorem nc113 (a d : Nat) : nuL (nuCl a d) 113 = h1 a * 4294967296 := by
  unfold nuL nuCl; rw [if_neg (by omega), if_neg (by omega), if_neg (by omega), if_neg (by omega), if_neg (by omega), if_neg (by omega), if_neg (by omega), if_neg (by omega), if_pos (by omega)]
theorem nc114 (a d : Nat) : nuL (nuCl a d) 114 = l1 a % 4294967296 := by
  unfold nuL nuCl; rw [if_neg (by omega), if_neg (by omega), if_neg (by omega), if_neg (by omega), if_neg (by omega), if_neg (by omega), if_neg (by omega), if_neg (by omega), if_neg (by omega), if_pos (by omega)]
theorem nc115 (a d : Nat) : nuL (nuCl a d) 115 = (a : Int) + 1 := by
  unfold nuL nuCl; rw [if_neg (by omega), if_neg (by omega), if_neg (by omega), if_neg (by omega), if_neg (by omega), if_neg (by omega), if_neg (by omega), if_neg (by omega), if_neg (by omega), if_neg (by omega), if_pos (by omega)]
theorem nc120 (a d : Nat) : nuL (nuCl a d) 120 = l2 a := by
  unfold nuL nuCl; rw [if_neg (by omega), if_neg (by omega), if_neg (by omega), if_neg (by omega), if_neg (by omega), if_neg (by omega), if_neg (by omega), if_neg (by omega), if_neg (by omega), if_neg (by omega), if_neg (by omega), if_pos (by omega)]
theorem nc121 (a d : Nat) : nuL (nuCl a d) 121 = l2 a / 4294967296 := by
  unfold nuL nuCl; rw [if_neg (by omega), if_neg (by omega), if_neg (by omega), if_neg (by omega), if_neg (by omega), if_neg (by omega), if_neg (by omega), if_neg (by omega), if_neg (by omega), if_neg (by omega), if_neg (by omega), if_neg (by omega), if_pos (by omega)]
theorem nc122 (a d : Nat) : nuL (nuCl a d) 122 = h2 a := by
  unfold nuL nuCl; rw [if_neg (by omega), if_neg (by omega), if_neg (by omega), if_neg (by omega), if_neg (by omega), if_neg (by omega), if_neg (by omega), if_neg (by omega), if_neg (by omega), if_neg (by omega), if_neg (by omega), if_neg (by omega), if_neg (by omega), if_pos (by omega)]
theorem nc123 (a d : Nat) : nuL (nuCl a d) 123 = IntKind.u64.wrap (h2 a * 4294967296) := by
  unfold nuL nuCl; rw [if_neg (by omega), if_neg (by omega), if_neg (by omega), if_neg (by omega), if_neg (by omega), if_neg (by omega), if_neg (by omega), if_neg (by omega), if_neg (by omega), if_neg (by omega), if_neg (by omega), if_neg (by omega), if_neg (by omega), if_neg (by omega), if_pos (by omega)]
theorem nc124 (a d : Nat) : nuL (nuCl a d) 124 = l2 a % 4294967296 := by
  unfold nuL nuCl; rw [if_neg (by omega), if_neg (by omega), if_neg (by omega), if_neg (by omega), if_neg (by omega), if_neg (by omega), if_neg (by omega), if_neg (by omega), if_neg (by omega), if_neg (by omega), if_neg (by omega), if_neg (by omega), if_neg (by omega), if_neg (by omega), if_neg (by omega), if_pos (by omega)]
theorem nc125 (a d : Nat) : nuL (nuCl a d) 125 = IntKind.u64.wrap ((a : Int) + 132120575) := by
  unfold nuL nuCl; rw [if_neg (by omega), if_neg (by omega), if_neg (by omega), if_neg (by omega), if_neg (by omega), if_neg (by omega), if_neg (by omega), if_neg (by omega), if_neg (by omega), if_neg (by omega), if_neg (by omega), if_neg (by omega), if_neg (by omega), if_neg (by omega), if_neg (by omega), if_neg (by omega), if_pos (by omega)]
noncomputable def cOv (a : Nat) : Bool := decide (18446744073709551616 ≤ (a : Int) + 132120575)
noncomputable def c1d (a d : Nat) : Bool := decide ((d : Int) < (a : Int) + 1)
noncomputable def c2d (a d : Nat) : Bool := decide ((cHi (cOv a)).val (nuL (nuCl a d)) < (cAt (c1d a d)).val (nuL (nuCl a d)))
theorem clS_ok {a d : Nat} (ha : a < 18446744073709551615) (_ : d < 18446744073709551616) {base : Nat} : SelfOk Tryz.prog (clEnv (cOv a) (c1d a d) (c2d a d)) (nuL (nuCl a d)) base (selfN (clEnv (cOv a) (c1d a d) (c2d a d)) 100000) := by
  refine selfN_ok (eok (fun op k x j y v e => rSym_ok (fun r hr => ?_) (fun g hg => by cases hg) (nuL_log _) e) (fun k j x v e => by cases e) (fun a j b e => by cases e)) (fun g x hx => by cases hx) _
  have ha0 : (0 : Int) ≤ a ∧ (a : Int) < 18446744073709551615 := by omega
  have hL0 : 0 ≤ l1 a ∧ l1 a ≤ 4294967296 := by unfold l1; omega
  have hL2 : 0 ≤ l2 a ∧ l2 a < 8589934592 := by unfold l2; omega
  have s1 : h1 a * 4294967296 + l1 a % 4294967296 = (a : Int) + 1 := by unfold h1 l1; omega
  have s2 : h2 a * 4294967296 + l2 a % 4294967296 = (a : Int) + 132120575 := by unfold h2 l2; omega
  have hH1 : 0 ≤ h1 a ∧ h1 a < 4294967296 := by omega
  have hH2 : 0 ≤ h2 a ∧ h2 a < 8589934592 := by omega
  clear ha
  generalize hc2 : c2d a d = c2 at hr
  simp only [clRules, rl, tw32, hoL, List.mem_cons, List.not_mem_nil, or_false] at hr
  rcases hr with rfl | rfl | rfl | rfl | rfl | rfl | rfl | rfl | rfl | rfl | rfl | rfl | rfl | rfl | rfl | rfl | rfl | rfl | rfl <;> simp only [RlOk, rlV]
  · exact symRem (by simp [SInt.val]) (by simp only [SInt.val, nc9, nc24]; exact (Int.tmod_eq_emod_of_nonneg ha0.1).symm)
  · exact symAdd (by simp only [SInt.val, nc24, nc110]; rw [wrap_u (by omega) (by omega)]; rfl)
  · exact symQuo (by simp [SInt.val]) (by simp only [SInt.val, nc9, nc27]; rw [Int.tdiv_eq_ediv_of_nonneg ha0.1, wrap_u (by omega) (by omega)])
  · exact symAdd (by simp only [SInt.val, nc27]; rw [wrap_u (by omega) (by omega)]; omega)
  · exact symQuo (by simp [SInt.val]) (by simp only [SInt.val, nc110, nc111]; rw [Int.tdiv_eq_ediv_of_nonneg hL0.1, wrap_u (by omega) (by omega)])
  · exact symAdd (by simp only [SInt.val, nc27, nc111, nc112]; rw [wrap_u (by omega) (by omega)]; rfl)
  · refine symGeq ?_
    simp only [SInt.val, nc112]
    rw [decide_eq_true (by omega)]; rfl
  · exact symMul (by simp only [SInt.val, nc112, nc113]; rw [wrap_u (by omega) (by omega)])
  · exact symRem (by simp [SInt.val]) (by simp only [SInt.val, nc110, nc114]; exact (Int.tmod_eq_emod_of_nonneg hL0.1).symm)
  · exact symAdd (by simp only [SInt.val, nc113, nc114, nc115]; rw [wrap_u (by omega) (by omega)]; omega)
  · exact symAdd (by simp only [SInt.val, nc24, nc120]; rw [wrap_u (by omega) (by omega)]; rfl)
  · exact symQuo (by simp [SInt.val]) (by simp only [SInt.val, nc120, nc121]; rw [Int.tdiv_eq_ediv_of_nonneg hL2.1, wrap_u (by omega) (by omega)])
  · exact symAdd (by simp only [SInt.val, nc27, nc121, nc122]; rw [wrap_u (by omega) (by omega)]; rfl)
  · refine symGeq ?_
    simp only [SInt.val, nc122]
    unfold cOv
    by_cases g : 18446744073709551616 ≤ (a : Int) + 132120575
    · rw [decide_eq_true g, decide_eq_false (by omega)]; rfl
    · rw [decide_eq_false g, decide_eq_true (by omega)]; rfl
  · exact symMul (by simp only [SInt.val, nc122, nc123])
  · exact symRem (by simp [SInt.val]) (by simp only [SInt.val, nc120, nc124]; exact (Int.tmod_eq_emod_of_nonneg hL2.1).symm)
  · exact symAdd (by simp only [SInt.val, nc123, nc124, nc125]; rw [wrapU_eq, wrapU_eq, wrapU_eq]; omega)
  · exact symLss (by simp only [SInt.val, nc12, nc115]; rfl)
  · exact symGtr (by rw [← hc2]; rfl)
end Go.Ev
set_option maxRecDepth 100000
namespace Go.Ev
open Go Go.Proofs
/-! TopDue: the document's Clamp as a call -/
def clampN (a d : Nat) : Nat := min (max d (a + 1)) (min (a + 132120575) 18446744073709551615)
theorem clVal {a d : Nat} (ha : a < 18446744073709551615) (_ : d < 18446744073709551616) : (clExp (cOv a) (c1d a d) (c2d a d)).val (nuL (nuCl a d)) = ((clampN a d : Nat) : Int) := by
  have e1 : (cHi (cOv a)).val (nuL (nuCl a d)) = ((min (a + 132120575) 18446744073709551615 : Nat) : Int) := by
    unfold cOv
    by_cases g : 18446744073709551616 ≤ (a : Int) + 132120575
    · rw [decide_eq_true g]; simp only [cHi, mxL, SInt.val]; omega
    · rw [decide_eq_false g]; simp only [cHi, SInt.val, nc125]; rw [wrap_u (by omega) (by omega)]; omega
  have e2 : (cAt (c1d a d)).val (nuL (nuCl a d)) = ((max d (a + 1) : Nat) : Int) := by
    unfold c1d
    by_cases g : (d : Int) < (a : Int) + 1
    · rw [decide_eq_true g]; simp only [cAt, SInt.val, nc115]; omega
    · rw [decide_eq_false g]; simp only [cAt, SInt.val, nc12]; omega
  unfold c2d clampN
  rw [e1, e2]
  by_cases g : ((min (a + 132120575) 18446744073709551615 : Nat) : Int) < ((max d (a + 1) : Nat) : Int)
  · rw [decide_eq_true g]; simp only [clExp]; rw [e1]; omega
  · rw [decide_eq_false g]; simp only [clExp]; rw [e2]; omega
theorem cl_at (a b c : Bool) : clOk a b c = true := both_at (both_at (both_at cl_all _) _) _
theorem cl_lands {E : Env} (hg : E.glob = glob0f) {ν : Nat → Int} {a d A : Nat} (ha : a < 18446744073709551615) (hd : d < 18446744073709551616) (e9 : ν 9 = a) (e12 : ν 12 = d) (e13 : ν 13 = A) (hA : A = clampN a d) {base : Nat} (st : St) :
    CallLands Tryz.prog E ν base 38 [u64A 9, u64A 12, .int .u64 hoL] st (u64A 13) st := by
  have hr := cl_at (cOv a) (c1d a d) (c2d a d)
  unfold clOk at hr
  obtain ⟨out', h3⟩ := isOkB_ok hr
  obtain ⟨v, st', h4, h5⟩ := (clS_ok ha hd (base := base)).call h3
  have h4 := endV_ok h4
  subst h4
  have f9 := nc9 a d
  have f12 := nc12 a d
  have fV := clVal ha hd
  refine h5.closed2 (E' := clEnv (cOv a) (c1d a d) (c2d a d)) hg.symm (globF hg) (fun σ L hL => ?_) (fun σ V hV τ => ?_) st
  · simp only [RepL, Rep, SInt.val, u64A, e9, e12, f9, f12] at hL ⊢
    exact hL
  · simp only [Rep, u64A] at hV ⊢
    rw [fV, ← hA] at hV
    simp only [SInt.val, e13]
    exact hV
theorem clI_ok {E : Env} (hg : E.glob = glob0f) {ν : Nat → Int} {a d A : Nat} (ha : a < 18446744073709551615) (hd : d < 18446744073709551616) (e9 : ν 9 = a) (e12 : ν 12 = d) (e13 : ν 13 = A) (hA : A = clampN a d) {base : Nat} {args : List SV} {st : St} {k : SV → St → R} {fb : Unit → R} {out} (h : clI.run args st k fb = .ok out) :
    (∃ v st', k v st' = .ok out ∧ CallLands Tryz.prog E ν base 38 args st v st') ∨ fb () = .ok out := by
  unfold clI at h
  dsimp only at h
  split at h
  case h_2 => exact .inr h
  rename_i i j ho
  split at h
  case h_2 => exact .inr h
  rename_i g1
  split at h
  case h_2 => exact .inr h
  rename_i g2
  split at h
  case h_2 => exact .inr h
  rename_i g3
  have g1 := Nat.eq_of_beq_eq_true g1; subst g1
  have g2 := Nat.eq_of_beq_eq_true g2; subst g2
  have g3 : ho = 132120575 := by rw [eqI_eq] at g3; simpa using g3
  subst g3
  exact .inl ⟨_, st, h, cl_lands hg ha hd e9 e12 e13 hA st⟩
end Go.Ev
set_option maxRecDepth 100000
namespace Go.Ev
open Go Go.Proofs
/-! TopDue: soundness of the document's Place -/
noncomputable def upP (A n : Nat) : Bool := decide (0 < (A : Int) % gr8 n)
noncomputable def numP (A n : Nat) : Int := if 0 < (A : Int) % gr8 n then IntKind.u64.wrap ((A : Int) / gr8 n + 1) else (A : Int) / gr8 n
noncomputable def cutP (A n : Nat) : Bool := decide (mx8 n < numP A n)
theorem gr8_pos (n : Nat) : 0 < gr8 n ∧ gr8 n ≤ 2097152 := by unfold gr8; split <;> omega
theorem plLss_mem {r : Rl} {n : Nat} : ∀ {m : Nat}, m ≤ n → ∀ {l : List Rl}, r ∈ plLss m n l → r = rl .lss .u64 (.atom 101) (.lit (gr8 n)) (.b true) ∨ (∃ j, j < n ∧ r = rl .lss .u64 (.atom 101) (.lit (gr8 j)) (.b false)) ∨ r ∈ l := by
  intro m
  induction m with
  | zero =>
    intro _ l h
    unfold plLss at h
    rcases List.mem_cons.mp h with h | h
    · exact .inl h
    · exact .inr (.inr h)
  | succ m ih =>
    intro hm l h
    unfold plLss at h
    rcases ih (by omega) h with h | h | h
    · exact .inl h
    · exact .inr (.inl h)
    · rcases List.mem_cons.mp h with h | h
      · exact .inr (.inl ⟨n - m - 1, by omega, h⟩)
      · exact .inr (.inr h)
noncomputable def nuPl (a d A n : Nat) (i : Nat) : Int :=
  if i = 9 then (a : Int) else if i = 12 then (d : Int) else if i = 13 then (A : Int) else if i = 100 then (A : Int) - a else if i = 101 then ((A : Int) - a) / 63 else if i = 102 then (A : Int) / gr8 n else if i = 103 then (A : Int) % gr8 n else if i = 104 then IntKind.u64.wrap ((A : Int) / gr8 n + 1) else if i = 15 then numP A n % 64 else if i = 14 then IntKind.u64.wrap (numP A n * gr8 n) else 0
theorem np9 (a d A n : Nat) : nuL (nuPl a d A n) 9 = (a : Int) := by
  unfold nuL nuPl; rw [if_neg (by omega), if_pos (by omega)]
theorem np12 (a d A n : Nat) : nuL (nuPl a d A n) 12 = (d : Int) := by
  unfold nuL nuPl; rw [if_neg (by omega), if_neg (by omega), if_pos (by omega)]
theorem np13 (a d A n : Nat) : nuL (nuPl a d A n) 13 = (A : Int) := by
  unfold nuL nuPl; rw [if_neg (by omega), if_neg (by omega), if_neg (by omega), if_pos (by omega)]
theorem np100 (a d A n : Nat) : nuL (nuPl a d A n) 100 = (A : Int) - a := by
  unfold nuL nuPl; rw [if_neg (by omega), if_neg (by omega), if_neg (by omega), if_neg (by omega), if_pos (by omega)]
theorem np101 (a d A n : Nat) : nuL (nuPl a d A n) 101 = ((A : Int) - a) / 63 := by
  unfold nuL nuPl; rw [if_neg (by omega), if_neg (by omega), if_neg (by omega), if_neg (by omega), if_neg (by omega), if_pos (by omega)]
theorem np102 (a d A n : Nat) : nuL (nuPl a d A n) 102 = (A : Int) / gr8 n := by
  unfold nuL nuPl; rw [if_neg (by omega), if_neg (by omega), if_neg (by omega), if_neg (by omega), if_neg (by omega), if_neg (by omega), if_pos (by omega)]
theorem np103 (a d A n : Nat) : nuL (nuPl a d A n) 103 = (A : Int) % gr8 n := by
  unfold nuL nuPl; rw [if_neg (by omega), if_neg (by omega), if_neg (by omega), if_neg (by omega), if_neg (by omega), if_neg (by omega), if_neg (by omega), if_pos (by omega)]
theorem np104 (a d A n : Nat) : nuL (nuPl a d A n) 104 = IntKind.u64.wrap ((A : Int) / gr8 n + 1) := by
  unfold nuL nuPl; rw [if_neg (by omega), if_neg (by omega), if_neg (by omega), if_neg (by omega), if_neg (by omega), if_neg (by omega), if_neg (by omega), if_neg (by omega), if_pos (by omega)]
theorem np15 (a d A n : Nat) : nuL (nuPl a d A n) 15 = numP A n % 64 := by
  unfold nuL nuPl; rw [if_neg (by omega), if_neg (by omega), if_neg (by omega), if_neg (by omega), if_neg (by omega), if_neg (by omega), if_neg (by omega), if_neg (by omega), if_neg (by omega), if_pos (by omega)]
theorem np14 (a d A n : Nat) : nuL (nuPl a d A n) 14 = IntKind.u64.wrap (numP A n * gr8 n) := by
  unfold nuL nuPl; rw [if_neg (by omega), if_neg (by omega), if_neg (by omega), if_neg (by omega), if_neg (by omega), if_neg (by omega), if_neg (by omega), if_neg (by omega), if_neg (by omega), if_neg (by omega), if_pos (by omega)]
theorem numP_nn (A n : Nat) : 0 ≤ numP A n := by
  unfold numP
  have := (gr8_pos n).1
  split
  · exact (wrapU _).1
  · exact Int.ediv_nonneg (by omega) (by omega)
theorem npN (a d A n : Nat) : (plNum (upP A n)).val (nuL (nuPl a d A n)) = numP A n := by
  unfold upP numP
  by_cases g : 0 < (A : Int) % gr8 n
  · rw [decide_eq_true g, if_pos g]; exact np104 a d A n
  · rw [decide_eq_false g, if_neg g]; exact np102 a d A n
theorem plS_ok {a d A n : Nat} (ha : a < 18446744073709551615) (hd : d < 18446744073709551616) (hA : A = clampN a d) (hn : ((A : Int) - a) / 63 < gr8 n) (hl : ∀ j, j < n → ¬ ((A : Int) - a) / 63 < gr8 j) {base : Nat} :
    SelfOk Tryz.prog (plEnv n (upP A n) (cutP A n)) (nuL (nuPl a d A n)) base (selfN (plEnv n (upP A n) (cutP A n)) 100000) := by
  have hA0 : a < A ∧ A < 18446744073709551616 := by rw [hA]; unfold clampN; omega
  obtain ⟨hg0, hg1⟩ := gr8_pos n
  have hN := npN a d A n
  have hrg : RgOk (nuL (nuPl a d A n)) plRng := by
    intro g hg
    simp only [plRng, List.mem_cons, List.not_mem_nil, or_false] at hg
    subst hg
    dsimp only; rw [np15]; omega
  refine selfN_ok (eok (fun op k x j y v e => rSym_ok (fun r hr => ?_) hrg (nuL_log _) e) (fun k j x v e => rConv_ok (by intro c hc; cases hc) hrg e) (fun a j b e => by cases e)) (fun g x hx => ?_) _
  · have hq0 : 0 ≤ (A : Int) / gr8 n ∧ (A : Int) / gr8 n ≤ A := ⟨Int.ediv_nonneg (by omega) (by omega), Int.ediv_le_self _ (by omega)⟩
    rcases plLss_mem (Nat.le_refl n) hr with rfl | ⟨j, hj, rfl⟩ | hr
    · simp only [RlOk, rlV, rl]
      exact symLss (by simp only [SInt.val, np101]; rw [decide_eq_true hn])
    · simp only [RlOk, rlV, rl]
      exact symLss (by simp only [SInt.val, np101]; rw [decide_eq_false (hl j hj)])
    · simp only [rl, mxL, List.mem_cons, List.not_mem_nil, or_false] at hr
      rcases hr with rfl | rfl | rfl | rfl | rfl | rfl | rfl | rfl | rfl | rfl <;> simp only [RlOk, rlV]
      · exact symEql (by simp only [SInt.val, np9]; rw [decide_eq_false (by omega)])
      · exact symSub (by simp only [SInt.val, np13, np9, np100]; rw [wrap_u (by omega) (by omega)])
      · exact symQuo (by simp [SInt.val]) (by simp only [SInt.val, np100, np101]; rw [Int.tdiv_eq_ediv_of_nonneg (by omega), wrap_u (by omega) (by omega)])
      · exact symQuo (by simp only [SInt.val]; omega) (by simp only [SInt.val, np13, np102]; rw [Int.tdiv_eq_ediv_of_nonneg (by omega), wrap_u (by omega) (by omega)])
      · exact symRem (by simp only [SInt.val]; omega) (by simp only [SInt.val, np13, np103]; exact (Int.tmod_eq_emod_of_nonneg (by omega)).symm)
      · exact symGtr (by simp only [SInt.val, np103]; rfl)
      · exact symAdd (by simp only [SInt.val, np102, np104])
      · exact symRem (by simp [SInt.val]) (by rw [hN]; simp only [SInt.val, np15]; exact (Int.tmod_eq_emod_of_nonneg (numP_nn A n)).symm)
      · exact symGtr (by rw [hN]; simp only [SInt.val]; rfl)
      · exact symMul (by rw [hN]; simp only [SInt.val, np14])
  · simp only [intrPl] at hx
    split at hx
    case h_2 => cases hx
    rename_i g1
    have g1 := Nat.eq_of_beq_eq_true g1; subst g1
    cases hx
    intro args st k fb out h
    exact clI_ok (E := plEnv n (upP A n) (cutP A n)) rfl ha hd (np9 a d A n) (np12 a d A n) (np13 a d A n) hA h
end Go.Ev
set_option maxRecDepth 100000
namespace Go.Ev
open Go Go.Proofs
/-! TopDue: the document's Place as a call -/
noncomputable section
def pzEnv : Env := ⟨tyT, fnT, glob0f, fun _ => Option.none, rSym [rl .eql .u64 (.atom 9) mxL (.b true)] [], fun _ _ _ => Option.none, simpleF, fun _ _ => Option.none⟩
def pzExp : SV := .tup [.agg [i64L 0, i64L 0, .int .u64 (.lit 0), .int .u64 (.lit 0)], i64L 12]
def pzNu (i : Nat) : Int := if i = 9 then 18446744073709551615 else 0
end
theorem pz_run : isOkB ((selfN pzEnv 100000).call 23 [u64A 9, u64A 12] ⟨.leaf, 0⟩ (endV pzExp)) = true := by kernel_rfl
theorem allPd_at {f : Nat → Bool} : ∀ {n : Nat}, allP n f = true → ∀ i, i < n → f i = true := by
  intro n
  induction n with
  | zero => intro _ i h; omega
  | succ n ih =>
    intro h i hi
    unfold allP at h
    split at h
    · rename_i g
      rcases Nat.lt_or_ge i n with h1 | h1
      · exact ih h i h1
      · have : i = n := by omega
        subst this; exact g
    · cases h
theorem pl_at {n : Nat} (hn : n < 8) (a b : Bool) : plOk n a b = true := both_at (both_at (allPd_at pl_all n hn) _) _
theorem rep_any {ν ν' : Nat → Int} {σ τ : Sg} {k : IntKind} {x : SInt} (V : Value) (h : Rep ν σ (.int k x) V) : Rep ν' τ .any V := by
  simp only [Rep] at h ⊢; subst h; rfl
theorem rep_tup {ν ν' : Nat → Int} {σ τ : Sg} {x y z w e x' y' z' w' e' : SV} {V : Value} (h : Rep ν σ (.tup [.agg [x, y, z, w], e]) V)
    (h1 : ∀ V, Rep ν σ x V → Rep ν' τ x' V) (h2 : ∀ V, Rep ν σ y V → Rep ν' τ y' V) (h3 : ∀ V, Rep ν σ z V → Rep ν' τ z' V) (h4 : ∀ V, Rep ν σ w V → Rep ν' τ w' V) (h5 : ∀ V, Rep ν σ e V → Rep ν' τ e' V) :
    Rep ν' τ (.tup [.agg [x', y', z', w'], e']) V := by
  simp only [Rep, RepL] at h ⊢
  obtain ⟨C, rfl, V1, U1, e1, ⟨D, rfl, X1, Y1, f1, r1, X2, Y2, rfl, r2, X3, Y3, rfl, r3, X4, Y4, rfl, r4, rfl⟩, X5, Y5, rfl, r5, rfl⟩ := h
  exact ⟨C, rfl, _, _, e1, ⟨D, rfl, _, _, f1, h1 _ r1, _, _, rfl, h2 _ r2, _, _, rfl, h3 _ r3, _, _, rfl, h4 _ r4, rfl⟩, _, _, rfl, h5 _ r5, rfl⟩
theorem lvl_ex (x : Int) (h : x < 2097152) : ∃ n, n < 8 ∧ x < gr8 n ∧ ∀ j, j < n → ¬ x < gr8 j := by
  have key : ∀ m, (∃ n, n < 8 ∧ x < gr8 n ∧ ∀ j, j < n → ¬ x < gr8 j) ∨ ∀ j, j < m → j < 8 → ¬ x < gr8 j := by
    intro m
    induction m with
    | zero => exact .inr (fun j h => by omega)
    | succ m ih =>
      rcases ih with h | h
      · exact .inl h
      · by_cases c : m < 8 ∧ x < gr8 m
        · exact .inl ⟨m, c.1, c.2, fun j hj => h j hj (by omega)⟩
        · refine .inr (fun j hj h8 => ?_)
          rcases Nat.lt_or_ge j m with h1 | h1
          · exact h j h1 h8
          · have : j = m := by omega
            subst this
            exact fun hx => c ⟨h8, hx⟩
  rcases key 8 with h1 | h1
  · exact h1
  · exact absurd (show x < gr8 7 by unfold gr8; exact h) (h1 7 (by omega) (by omega))
/-- the told answer's D -/
noncomputable def dueP (A n : Nat) : Int := if mx8 n < numP A n then 18446744073709551615 else IntKind.u64.wrap (numP A n * gr8 n)
theorem pl_lands {E : Env} (hg : E.glob = glob0f) {ν : Nat → Int} {a d A n : Nat} {x : SInt} (ha : a < 18446744073709551615) (hd : d < 18446744073709551616) (hA : A = clampN a d) (h8 : n < 8) (hn : ((A : Int) - a) / 63 < gr8 n) (hl : ∀ j, j < n → ¬ ((A : Int) - a) / 63 < gr8 j)
    (e9 : ν 9 = a) (ex : x.val ν = d) {v' : SV} (hv : ∀ σ τ V, Rep (nuL (nuPl a d A n)) σ (plExp n (cutP A n)) V → Rep ν τ v' V) {base : Nat} (st : St) :
    CallLands Tryz.prog E ν base 23 [u64A 9, .int .u64 x] st v' st := by
  have hr := pl_at h8 (upP A n) (cutP A n)
  unfold plOk at hr
  obtain ⟨out', h3⟩ := isOkB_ok hr
  obtain ⟨v, st', h4, h5⟩ := (plS_ok ha hd hA hn hl (base := base)).call h3
  have h4 := endV_ok h4
  subst h4
  have f9 := np9 a d A n
  have f12 := np12 a d A n
  refine h5.closed2 (E' := plEnv n (upP A n) (cutP A n)) hg.symm (globF hg) (fun σ L hL => ?_) (fun σ V hV τ => hv σ τ V hV) st
  have g9 : (SInt.atom 9).val ν = (a : Int) := e9
  have k9 : (SInt.atom 9).val (nuL (nuPl a d A n)) = (a : Int) := f9
  have k12 : (SInt.atom 12).val (nuL (nuPl a d A n)) = (d : Int) := f12
  simp only [RepL, Rep, u64A, g9, ex, k9, k12] at hL ⊢
  exact hL
theorem pz_lands {E : Env} (hg : E.glob = glob0f) {ν : Nat → Int} {x : SInt} (e9 : ν 9 = 18446744073709551615) (ex : x.val ν = 0) {base : Nat} (st : St) :
    CallLands Tryz.prog E ν base 23 [u64A 9, .int .u64 x] st (.tup [.agg [.any, .any, .any, .any], .any]) st := by
  obtain ⟨out', h3⟩ := isOkB_ok pz_run
  have hS : SelfOk Tryz.prog pzEnv (nuL pzNu) base (selfN pzEnv 100000) := by
    refine selfN_ok (eok (fun op k x j y v e => rSym_ok (fun r hr => ?_) (fun g hg => by cases hg) (nuL_log _) e) (fun k j x v e => by cases e) (fun a j b e => by cases e)) (fun g x hx => by cases hx) _
    simp only [rl, mxL, List.mem_cons, List.not_mem_nil, or_false] at hr
    subst hr
    simp only [RlOk, rlV]
    exact symEql (by simp [SInt.val, nuL, pzNu])
  obtain ⟨v, st', h4, h5⟩ := hS.call h3
  have h4 := endV_ok h4
  subst h4
  have f9 : nuL pzNu 9 = 18446744073709551615 := by simp [nuL, pzNu]
  have f12 : nuL pzNu 12 = 0 := by simp [nuL, pzNu]
  refine h5.closed2 (E' := pzEnv) hg.symm (globF hg) (fun σ L hL => ?_) (fun σ V hV τ => rep_tup hV rep_any rep_any rep_any rep_any rep_any) st
  have g9 : (SInt.atom 9).val ν = 18446744073709551615 := e9
  have k9 : (SInt.atom 9).val (nuL pzNu) = 18446744073709551615 := f9
  have k12 : (SInt.atom 12).val (nuL pzNu) = 0 := f12
  simp only [RepL, Rep, u64A, g9, ex, k9, k12] at hL ⊢
  exact hL
/-- what the numbers of a deadline that is right are -/
structure PlaceOk (q : Dn) : Prop where
  n0 : q.n0 < 18446744073709551615
  dl : q.dl < 18446744073709551616
  A : q.A = clampN q.n0 q.dl
  lv : ((q.A : Int) - q.n0) / 63 < gr8 q.lv ∧ ∀ j, j < q.lv → ¬ ((q.A : Int) - q.n0) / 63 < gr8 j
  D : (q.D : Int) = dueP q.A q.lv
end Go.Ev
set_option maxRecDepth 100000
namespace Go.Ev
open Go Go.Proofs
/-! TopDue: prI's soundness -/
theorem prI_ok {E : Env} (hg : E.glob = glob0f) {q : Dn} (hq : q.Ok) {ok : Bool} (hp : ok = true → PlaceOk q) {base : Nat} {args : List SV} {st : St} {k : SV → St → R} {fb : Unit → R} {out} (h : (prI ok).run args st k fb = .ok out) :
    (∃ v st', k v st' = .ok out ∧ CallLands Tryz.prog E q.V base 23 args st v st') ∨ fb () = .ok out := by
  unfold prI at h
  dsimp only at h
  split at h
  case h_2 => exact .inr h
  rename_i i x
  split at h
  case h_2 => exact .inr h
  rename_i g1
  have g1 := Nat.eq_of_beq_eq_true g1; subst g1
  cases ok with
  | true =>
    dsimp only at h
    split at h
    case h_2 => exact .inr h
    rename_i g2
    have g2 := beqSI_ok g2; subst g2
    have P := hp rfl
    refine .inl ⟨_, st, h, pl_lands (x := .atom 12) hg P.n0 P.dl P.A hq.lv P.lv.1 P.lv.2 (Dn.v9 q) (Dn.v12 q) (fun σ τ V hV => ?_) st⟩
    refine rep_tup hV rep_any rep_any (fun V hV => ?_) (fun V hV => ?_) rep_any
    · simp only [Rep, u64A, SInt.val, np13, Dn.v13] at hV ⊢; exact hV
    · have hD := P.D
      unfold dueP at hD
      unfold plD cutP at hV
      by_cases c : mx8 q.lv < numP q.A q.lv
      · rw [if_pos c] at hD
        rw [decide_eq_true c] at hV
        simp only [Rep, u64A, SInt.val, mxL, Dn.v14] at hV ⊢; rw [hD]; exact hV
      · rw [if_neg c] at hD
        rw [decide_eq_false c] at hV
        simp only [Rep, u64A, SInt.val, np14, Dn.v14] at hV ⊢; rw [hD]; exact hV
  | false =>
    dsimp only at h
    split at h
    case h_2 => exact .inr h
    rename_i g2
    have g2 := beqSI_ok g2; subst g2
    refine .inl ⟨_, st, h, ?_⟩
    by_cases hm : q.n0 = 18446744073709551615
    · exact pz_lands (x := .lit 0) hg (by rw [Dn.v9]; omega) rfl st
    · have hN := hq.u64.2.1
      have hc : q.n0 < clampN q.n0 0 ∧ clampN q.n0 0 ≤ q.n0 + 1 := by unfold clampN; omega
      generalize hAe : clampN q.n0 0 = A at hc
      have h1 : (A : Int) - q.n0 ≤ 1 := by omega
      have h2 : ((A : Int) - q.n0) / 63 < 2097152 := by omega
      obtain ⟨n, n8, nl, nj⟩ := lvl_ex (((A : Int) - q.n0) / 63) h2
      have ha : q.n0 < 18446744073709551615 := by omega
      have hd : 0 < 18446744073709551616 := by omega
      have hx : (SInt.lit 0).val q.V = ((0 : Nat) : Int) := by simp only [SInt.val]; omega
      refine pl_lands (ν := q.V) (a := q.n0) (d := 0) (A := A) (n := n) (x := .lit 0) hg ha hd hAe.symm n8 nl nj (Dn.v9 q) hx (fun σ τ V hV => ?_) st
      refine rep_tup hV rep_any rep_any rep_any (fun V hV => ?_) rep_any
      generalize cutP A n = c at hV
      cases c with
      | true => exact rep_any V hV
      | false => exact rep_any V hV
end Go.Ev
