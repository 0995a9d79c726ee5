/- The statement TopPeriodCardSaid: for every input the law TopPeriod returns true, and each argument reads as it read. Under no condition of ours. -/
import Derived.Test.YtkfeofhifmebkaaGreatDoorGivenPer
import Derived.Test.YtkfeofhifmebkaaGreatDoorFactTopPeriod
import Derived.Test.YtkfeofhifmebkaaGreatDoorOpenPer
namespace Go.Proofs.YtkfeofhifmebkaaGreatDoor.topPeriod
open Go.ChangeShapes Go.WideShapes Go.ChangeAt Go.RowKit

theorem params : ∀ t ∈ Tryz.f4.params.toList, Tryz.prog.readableRec t = true ∧ t < Tryz.prog.types.size := by
  rw [Tryz.params4]
  intro t ht
  simp only [List.mem_cons, List.not_mem_nil, or_false] at ht
  rcases ht with rfl | rfl
  · exact ⟨(show Tryz.prog.readableRec 3 = true by kernel_rfl), of_decide_eq_true (by kernel_rfl)⟩
  · exact ⟨(show Tryz.prog.readableRec 3 = true by kernel_rfl), of_decide_eq_true (by kernel_rfl)⟩

set_option maxRecDepth 100000 in
theorem contract (H : Type) (enc : TypeId × Value → H) (W : World) (base : Nat) (args : Array Value) (ds gs : List (DataW H)) (before : List MemPlace)
    (hval : ∀ (j : Nat) t v, Tryz.f4.params[j]? = some t → args[j]? = some v → Value.okWide Tryz.prog W .any base t v)
    (hW : DataW.Whole enc Tryz.prog Tryz.f4.params.toList Rows.topPeriodSpec.vars false W args.toList ds gs before) (hL : laidMetH Tryz.prog Rows.topPeriodRow.laid W) :
    Calls Tryz.prog 4 args W fun e W' => ∃ v, e = .returned v ∧ Rows.topPeriodSpec.post enc Tryz.prog Tryz.f4 false true false false W args v W' := by
  have hW' := hW
  obtain ⟨p, q, hA0, hV, rfl, hfz, hnd⟩ := hW
  have hA : DataW.TrodAll enc Tryz.prog W 0 (fun _ => true) true Tryz.f4.params.toList args.toList ds p := hA0
  rw [Tryz.params4] at hA hval
  obtain ⟨v0, vs0, d0, ds0, p0, q0, hargs, rfl, rfl, h0, r0⟩ := trodAll_cons hA
  obtain ⟨v1, vs1, d1, ds1, p1, q1, rfl, rfl, rfl, h1, r1⟩ := trodAll_cons r0
  obtain ⟨rfl, rfl, rfl⟩ := trodAll_nil r1
  obtain rfl : args = #[v0, v1] := by cases args; simp_all
  obtain ⟨per, rfl, a1, a1'⟩ := int_open Tryz.underlying3 (hval 0 3 v0 rfl rfl) h0
  obtain ⟨n, rfl, b1, b1'⟩ := int_open Tryz.underlying3 (hval 1 3 v1 rfl rfl) h1
  clear hA0
  refine (period_law (tabs_of_laid hL) (Go.Ev.wrap_i (by omega) (by omega)) (Go.Ev.wrap_i (by omega) (by omega))).mono fun e W' ⟨he, hk⟩ => ?_
  subst he
  exact ⟨_, rfl, law_post (tb := 4) laidOut params rfl (show Tryz.f4.resultTypes = _ by kernel_rfl) Tryz.underlying4 (fun ds hd => by
    rw [Tryz.params4] at hd
    match ds, hd with
    | [d0, d1], _ => rfl) hW' hk⟩

theorem laid_met (os : Os) : laidMet Tryz.prog Rows.topPeriodRow.laid ((laidWorld os).forCall (fun _ _ => 0) ⟨#[], #[.int .i64 0, .int .i64 0], []⟩).memory :=
  laidMet_of_run3 10 (by kernel_rfl) (by kernel_rfl) (by kernel_rfl)
theorem reads (os : Os) {H : Type} (enc : TypeId × Value → H) : ∃ places, DataW.whole enc Tryz.prog ((laidWorld os).forCall (fun _ _ => 0) ⟨#[], #[.int .i64 0, .int .i64 0], []⟩).memory Tryz.f4.params.toList Rows.topPeriodSpec.vars false (#[.int .i64 0, .int .i64 0] : Array Value).toList 8 = some ([.lit (.int .i64 0), .lit (.int .i64 0)], [], places) :=
  ⟨[], by kernel_rfl⟩

set_option maxRecDepth 100000 in
theorem lifted (os : Os) (started : os.Started) (H : Type) (enc : TypeId × Value → H) (F : Stop.Interp) :
    ReturnsInHanded {} Tryz.checked os 4 .any ((OpenSpec.ofChange Rows.topPeriodSpec).preRow enc Tryz.prog Tryz.f4 Rows.topPeriodRow.domain false Rows.topPeriodRow.laid) (((OpenSpec.ofChange Rows.topPeriodSpec).at F).post enc Tryz.prog Tryz.f4 false true false false) := by
  obtain ⟨places, hx⟩ := reads os enc
  refine returnsInHanded_of_row (C := Tryz.checked) (s := OpenSpec.ofChange Rows.topPeriodSpec) own started (by kernel_rfl) Tryz.func4
    (witness_row_atRef (enc := enc) (C := Tryz.checked) false (laidWorld os) #[.int .i64 0, .int .i64 0] rfl (by kernel_rfl) (by kernel_rfl) (by kernel_rfl)
      (OpenSpec.preRow_of_cond 8 hx (by kernel_rfl) (fun k hk => by cases hk) (by kernel_rfl) (laid_met os))) ?_
  intro W base args ds gs before hval hW _ _ _ hL _ _
  exact contract H enc W base args ds gs before hval hW hL

set_option maxRecDepth 100000
theorem noneGoes (g : FuncId) : (Tryz.prog.funcs[g]?).any Func.goes = false := by
  cases h : Tryz.prog.funcs[g]? with
  | none => rfl
  | some fn =>
    have h1 := funcsGo
    rw [Array.any_eq_false] at h1
    obtain ⟨hi, e⟩ := Array.getElem?_eq_some_iff.1 h
    have := h1 g hi
    rw [e] at this
    simpa using this
theorem goes : Rows.topPeriodRow.goesBy Tryz.prog = false := by
  have h : Tryz.prog.goes 4 = false := by
    unfold Program.goes
    have h1 : ((Tryz.prog.closure 4).any fun g => (Tryz.prog.funcs[g]?).any Func.goes) = false := by
      rw [List.any_eq_false]
      intro g _
      rw [noneGoes g]
      simp
    rw [h1, funcsGo]
    simp
  have e : Rows.topPeriodRow.func = "detent/detenttop.TopPeriod" := rfl
  have e2 : Rows.topPeriodRow.start = .entering := rfl
  unfold OpenClaim.goesBy Program.goesAt Program.goesFrom
  rw [e, e2, fnNamed, Option.any_some, h]
  rfl
theorem closed : joinedFacts Tryz.prog 4 Tryz.f4 (OpenSpec.ofChange Rows.topPeriodSpec).bare Rows.topPeriodRow = true := by
  have hu : (Rows.topPeriodRow.unfollowed == Tryz.prog.unfollowed 4) = true := by rw [unfollowed]; rfl
  have hr : (Rows.topPeriodRow.recurses == Tryz.prog.recurses 4) = true := by rw [recurses]; rfl
  unfold joinedFacts
  rw [laidOut, rowed, inPlace, hu, hr, varsNamed, plainKeys, stopsHeard, mayEnter]
  show _ = true
  kernel_rfl

theorem said : Rows.TopPeriodSaid :=
  OpenClaim.holds_of_cond 4 Tryz.f4 rfl rfl rfl rfl rfl rfl rfl ⟨rfl, rfl, rfl, rfl, rfl⟩ rfl rfl rfl rfl rfl fnNamed Tryz.func4 closed
    (of_decide_eq_true (by kernel_rfl)) (by unfold Func.isWrapper; first | (rw [if_pos (by decide +kernel)]; kernel_rfl) | (rw [if_neg (by decide +kernel)]; exact ⟨rfl, rfl⟩))
    (fun os started H enc _ F => by rw [OpenClaim.pre_eq_preRow]; exact lifted os started H enc F)

/-- No parameter wants a stand-in; the program's own looks are off. -/
theorem plain (f : FuncId) (fn : Func) (hf : Tryz.pinned.checked.prog.funcNamed "detent/detenttop.TopPeriod" = some f) (hfn : Tryz.pinned.checked.prog.funcs[f]? = some fn) :
    false = Tryz.pinned.checked.prog.looks [] ∧ ∀ (j : Nat) t, fn.params[j]? = some t → Tryz.pinned.checked.prog.wantsStandIn t = false := by
  obtain rfl : f = 4 := Option.some.inj (fnNamed.symm.trans hf) |>.symm
  obtain rfl : fn = Tryz.f4 := (Option.some.inj (Tryz.func4.symm.trans hfn)).symm
  refine ⟨looks.symm, fun j t ht => ?_⟩
  rw [Tryz.params4] at ht
  have hm := Array.mem_of_getElem? ht
  simp only [List.mem_toArray, List.mem_cons, List.not_mem_nil, or_false] at hm
  rcases hm with rfl | rfl
  · exact (show Tryz.prog.wantsStandIn 3 = false by kernel_rfl)
  · exact (show Tryz.prog.wantsStandIn 3 = false by kernel_rfl)

theorem row_tie2 : Rows.topPeriodRow.laidByTextAt .later Tryz.pinned [.data, .data, .listed, .data, .data] true :=
  OpenClaim.laidByTextAt_later rfl rfl tie2 noOwnUnsafe2
/-- The card. -/
theorem proved : Rows.TopPeriodCardSaid :=
  Claim7.holds_tied_plain_at .later [] _ _ _ _ said (fun _ h => by cases h) (by kernel_rfl) (fun _ h => by cases h) row_tie2 rfl ⟨rfl, rfl⟩ (by kernel_rfl) rfl plain goes.symm
#print axioms proved
end Go.Proofs.YtkfeofhifmebkaaGreatDoor.topPeriod
