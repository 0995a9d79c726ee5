/- The tops: a verified evaluator of the program (PM). -/
import Derived.Test.YtkfeofhifmebkaaGreatDoorEvD
import Derived.Test.YtkfeofhifmebkaaGreatDoorPI3
import Derived.Test.YtkfeofhifmebkaaGreatDoorPL
import Derived.Test.YtkfeofhifmebkaaGreatDoorKA6
namespace Go.Ev
open Go
variable {P : Program} {E : Env} {base : Nat} {ν : Nat → Int}
/-- one block more is told -/
theorem Sim.put {σ : Sg} {h0 h1 : T AB} {nx : Nat} {w : World} (hs : Sim P E ν base σ ⟨h0, nx⟩ w) {n bl z : Nat} {o : Obj} {b : AB}
    (e1 : getT h1 n = some b) (e2 : ∀ m, m ≠ n → getT h1 m = getT h0 m) (hσ : σ n = some (bl, z)) (hb : base ≤ bl) (ho : w.heap[bl]? = some o) (hi : b.Is P ν σ z o)
    (hj : ∀ m c y, m ≠ n → getT h0 m = some c → σ m ≠ some (bl, y)) : Sim P E ν base σ ⟨h1, nx⟩ w where
  fresh := hs.fresh
  blk m c e := by
    by_cases g : m = n
    · subst g; rw [e1] at e; cases e; exact ⟨bl, z, o, hσ, hb, ho, hi⟩
    · exact hs.blk m c (by rw [← e2 m g]; exact e)
  inj m k c d x z1 y1 em ek sm sk := by
    by_cases g : m = n
    · by_cases g' : k = n
      · rw [g, g']
      · subst g
        rw [hσ] at sm; cases sm
        exact absurd sk (hj k d y1 g' (by rw [← e2 k g']; exact ek))
    · by_cases g' : k = n
      · subst g'
        rw [hσ] at sk; cases sk
        exact absurd sm (hj m c z1 g (by rw [← e2 m g]; exact em))
      · exact hs.inj m k c d x z1 y1 (by rw [← e2 m g]; exact em) (by rw [← e2 k g']; exact ek) sm sk
  glob := hs.glob
  size := hs.size
end Go.Ev
set_option maxRecDepth 100000
namespace Go.Ev
open Go Go.Proofs
noncomputable section
/-! TopPeriod: the states at the loop's head have all but the wheel's block in common -/
def put1 (s : St) (n : Nat) (b : Option AB) : St := match s with
  | ⟨h, m⟩ => setTK h n b fun t => ⟨t, m⟩
def h0S : St := put1 hIS 42 Option.none
theorem hIS_eq : hIS = put1 h0S 42 (some pb50) := by kernel_rfl
theorem hNS_eq : hNS = put1 h0S 42 (some pb51) := by kernel_rfl
theorem x0S_eq : x0S = put1 h0S 42 (some pb45) := by kernel_rfl
theorem hUS_eq : hUS = put1 (put1 h0S 60 (some pb52)) 42 (some pb53) := by kernel_rfl
theorem xFS_eq : xFS = put1 (put1 h0S 60 (some pb6)) 42 (some pb54) := by kernel_rfl
theorem h0_next : h0S.next = 100 := by kernel_rfl
end
end Go.Ev
set_option maxRecDepth 100000
namespace Go.Ev
open Go Go.Proofs
noncomputable section
/-! TopPeriod: behind the loop -/
def awakeI : IX := ⟨fun args st k fb => match args with
  | [] => k (.bool true) st
  | _ => fb ()⟩
def intrM (f : FuncId) : Option IX := match f with
  | 12 => some awakeI
  | 32 => some after13I
  | f => intr2 f
def envM (ph : Nat) : Env := ⟨tyT, fnT, glob0f, intrM, rSym (rulesP ph) rngs, rConv convsP rngs, simpleF, rLog⟩
def sfT (ph : Nat) : Self := selfN (envM ph) 1000000
def rulesZ : List Rl := [rl .lss .i64 (.lit 0) (.atom 11) (.b false), rl .quo .i64 (.atom 11) (.atom 10) (.n (.lit 0))]
def intrZ (f : FuncId) : Option IX := match f with
  | 12 => some awakeI
  | f => intrP f
def envZ : Env := ⟨tyT, fnT, glob0f, intrZ, rSym (appR rulesZ (rulesP 0)) rngs, rConv convsP rngs, simpleF, rLog⟩
def sfZ : Self := selfStep envZ (memoSelf 18 cG0 cA0S cV0 cB0S (memoSelf 18 cG1 cA1S cV1 cB1S (memoSelf 14 cG2 cA2S cV2 cB2S (selfN envZ 1000000))))
def d8 : C8 := .mk .dead .dead .dead .dead .dead .dead .dead .dead
def m2A : A := ⟨[.mk (.int .i64 (.atom 10)) (.int .i64 (.atom 11)) .dead .dead .dead .dead .dead .dead, .mk .dead .dead (.int .i64 (.atom 8)) (.slc 0 0 (.atom 6000) Option.none) (.int .i64 (.atom 7)) .dead .dead .dead, d8, d8, d8, d8, d8, d8, d8, d8, d8, d8, d8, d8, d8], []⟩
def m2S : St := ⟨.node (some (.log 6000 [] 34)) .leaf .leaf, 100⟩
def keepT (l : List Nat) (i : Nat) : Bool := memN i l
def finT2 (ren : List (Nat × Nat)) (ints : List (SInt × SInt)) (l : List Nat) (a : A) (st : St) : R :=
  mkT' ren .leaf fun r => mkT' (swapP ren) .leaf fun i => finM ⟨r, i, ints, keepT l, [(6000, [], 6000)]⟩ szP m2A m2S a st
def pdL2 : Code := loP (blP (tlP (pdAt 10)))
def cdP : Code → Code
  | .cond _ a _ => a
  | c => c
/-- the body of the second loop: regions 18 .. -/
def pdB3 : Code := blP (hdP (tlP pdL2))
/-- regions 19 .. -/
def pdX : Code := cdP (tlP pdB3)
def pdEnd : Code := pdTl 11
/-- the function's answer is true -/
def finV (nt : Nat) (ph : Env) (e : Ex) (a : A) (st : St) : R := match e with
  | .ret => closeK a.marks st fun st => (resultsC ph nt Tryz.f4.results.toList).run a st fun vs => match vs with
    | [v] => match v with
      | .bool b => match b with
        | true => .ok (.bool true, st)
        | false => .err "false"
      | _ => .err "answer"
    | _ => .err "answers"
  | _ => .err "no return"
def firstN (st : St) : R := match st with
  | ⟨_, n⟩ => .ok (.int .i64 (.lit (.ofNat n)), st)
/-- from the loop's head, with all rounds made, to the second loop -/
def okE1 (n : Nat) : Bool := isOkB ((sfT 3).code 4 pdLoop Option.none hA hIS fun e a st => match e with
  | .exit j => match Nat.beq j 0 with
    | true => runCs (sfT 3) 4 [pdAt 8, pdAt 9, hdP (pdAt 10)] a st (finT2 [(0, n)] [(.lit 0, .atom 7), (.lit 0, .atom 8)] [10, 11, 6000])
    | false => .err "exit"
  | _ => .err "no exit")
def ok16 : Bool := isOkB (runCs (sfT 4) 4 [hdP pdL2] m2A m2S (finT2 [(0, 0)] [] [7, 8, 10, 11, 6000]))
def ok19 : Bool := isOkB (runCs (sfT 4) 4 [hdP (pdX)] m2A m2S (finT2 [(0, 0)] [(.atom 13, .atom 8)] [7, 10, 11, 6000]))
def ok17 : Bool := isOkB (runCs (sfT 4) 4 [tlP (tlP pdL2)] m2A m2S (finT2 [(0, 0)] [(.atom 12, .atom 7)] [8, 10, 11, 6000]))
def okX2 : Bool := isOkB ((sfT 5).code 4 (hdP pdL2) Option.none m2A m2S fun e a st => match e with
  | .exit j => match Nat.beq j 2 with
    | true => finT2 [(0, 0)] [] [7, 8, 10, 11, 6000] a st
    | false => .err "exit"
  | _ => .err "no exit")
def okE2 : Bool := isOkB ((sfT 5).code 4 pdEnd Option.none m2A m2S (finV Tryz.f4.ntmps (envM 5)))
def okZ : Bool := isOkB (runCs sfZ 4 [pdAt 5, pdAt 6, pdAt 7, pdAt 8, pdAt 9, pdAt 10] mA mS fun a st => sfZ.code 4 pdEnd Option.none a st (finV Tryz.f4.ntmps envZ))
end
end Go.Ev
