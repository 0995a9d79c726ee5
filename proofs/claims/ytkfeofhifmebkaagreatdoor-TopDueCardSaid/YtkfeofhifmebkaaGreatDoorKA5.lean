/- The tops: a verified evaluator of the program (KA5). -/
import Derived.Test.YtkfeofhifmebkaaGreatDoorKA
namespace Go.Ev
open Go Go.Proofs
def finT (v : SV) (st : St) : R := match v with
  | .bool b => match b with
    | true => .ok (v, st)
    | false => .err "false"
  | _ => .err "no truth"
noncomputable def awFin (a : A) (st : St) : R := closeK a.marks st fun st => (resultsC E2 Tryz.f12.ntmps Tryz.f12.results.toList).run a st fun vs => match vs with
  | [v] => finT v st
  | vs => finT (.tup vs) st
theorem aw_run3 : isOkB (sf2.code 12 (awR 5) Option.none aw5A aw5S fun e a st => match e with
  | .ret => awFin a st
  | _ => .err "exit") = true := by kernel_rfl
end Go.Ev
