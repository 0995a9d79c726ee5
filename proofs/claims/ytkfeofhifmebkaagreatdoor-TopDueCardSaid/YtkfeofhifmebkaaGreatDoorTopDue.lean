/- The statement TopDueCardSaid: for every input the law TopDue returns true, and each argument reads as it read. Under no condition of ours. -/
import Derived.Test.YtkfeofhifmebkaaGreatDoorGivenDue
import Derived.Test.YtkfeofhifmebkaaGreatDoorFactTopDue
import Derived.Test.YtkfeofhifmebkaaGreatDoorOpenDue
namespace Go.Proofs.YtkfeofhifmebkaaGreatDoor.topDue
open Go.ChangeShapes Go.WideShapes Go.ChangeAt Go.RowKit

theorem params : ∀ t ∈ Tryz.f5.params.toList, Tryz.prog.readableRec t = true ∧ t < Tryz.prog.types.size := by
  rw [Tryz.params5]
  intro t ht
  simp only [List.mem_cons, List.not_mem_nil, or_false] at ht
  rcases ht with rfl | rfl | rfl | rfl | rfl
  · exact ⟨(show Tryz.prog.readableRec 25 = true by kernel_rfl), of_decide_eq_true (by kernel_rfl)⟩
  · exact ⟨(show Tryz.prog.readableRec 25 = true by kernel_rfl), of_decide_eq_true (by kernel_rfl)⟩
  · exact ⟨(show Tryz.prog.readableRec 3 = true by kernel_rfl), of_decide_eq_true (by kernel_rfl)⟩
  · exact ⟨(show Tryz.prog.readableRec 3 = true by kernel_rfl), of_decide_eq_true (by kernel_rfl)⟩
  · exact ⟨(show Tryz.prog.readableRec 54 = true by kernel_rfl), of_decide_eq_true (by kernel_rfl)⟩

set_option maxRecDepth 100000 in
theorem contract (H : Type) (enc : TypeId × Value → H) (W : World) (base : Nat) (args : Array Value) (ds gs : List (DataW H)) (before : List MemPlace)
    (hval : ∀ (j : Nat) t v, Tryz.f5.params[j]? = some t → args[j]? = some v → Value.okWide Tryz.prog W .any base t v)
    (hW : DataW.Whole enc Tryz.prog Tryz.f5.params.toList Rows.topDueSpec.vars false W args.toList ds gs before) (hL : laidMetH Tryz.prog Rows.topDueRow.laid W) :
    Calls Tryz.prog 5 args W fun e W' => ∃ v, e = .returned v ∧ Rows.topDueSpec.post enc Tryz.prog Tryz.f5 false true false false W args v W' := by
  have hW' := hW
  obtain ⟨p, q, hA0, hV, rfl, hfz, hnd⟩ := hW
  have hA : DataW.TrodAll enc Tryz.prog W 0 (fun _ => true) true Tryz.f5.params.toList args.toList ds p := hA0
  rw [Tryz.params5] at hA hval
  obtain ⟨v0, vs0, d0, ds0, p0, q0, hargs, rfl, rfl, h0, r0⟩ := trodAll_cons hA
  obtain ⟨v1, vs1, d1, ds1, p1, q1, rfl, rfl, rfl, h1, r1⟩ := trodAll_cons r0
  obtain ⟨v2, vs2, d2, ds2, p2, q2, rfl, rfl, rfl, h2, r2⟩ := trodAll_cons r1
  obtain ⟨v3, vs3, d3, ds3, p3, q3, rfl, rfl, rfl, h3, r3⟩ := trodAll_cons r2
  obtain ⟨v4, vs4, d4, ds4, p4, q4, rfl, rfl, rfl, h4, r4⟩ := trodAll_cons r3
  obtain ⟨rfl, rfl, rfl⟩ := trodAll_nil r4
  obtain rfl : args = #[v0, v1, v2, v3, v4] := by cases args; simp_all
  obtain ⟨n0, rfl, b0⟩ := word_open Tryz.underlying25 (hval 0 25 v0 rfl rfl) h0
  obtain ⟨tk, rfl, b1⟩ := word_open Tryz.underlying25 (hval 1 25 v1 rfl rfl) h1
  obtain ⟨fr, rfl, b2, b2'⟩ := int_open Tryz.underlying3 (hval 2 3 v2 rfl rfl) h2
  obtain ⟨cr, rfl, b3, b3'⟩ := int_open Tryz.underlying3 (hval 3 3 v3 rfl rfl) h3
  obtain ⟨acts, i4, w4⟩ := acts_open (hval 4 54 v4 rfl rfl) h4
  clear hA0
  refine (due_law (tabs_of_laid hL) b0 b1 (Go.Ev.wrap_i (by omega) (by omega)) (Go.Ev.wrap_i (by omega) (by omega)) w4 i4).mono fun e W' ⟨he, hk⟩ => ?_
  subst he
  exact ⟨_, rfl, law_post (tb := 4) laidOut params rfl (show Tryz.f5.resultTypes = _ by kernel_rfl) Tryz.underlying4 (fun ds hd => by
    rw [Tryz.params5] at hd
    match ds, hd with
    | [d0, d1, d2, d3, d4], _ => rfl) hW' hk⟩

theorem laid_met (os : Os) : laidMet Tryz.prog Rows.topDueRow.laid ((laidWorld os).forCall (fun _ _ => 0) ⟨#[], #[.int .u64 0, .int .u64 0, .int .i64 0, .int .i64 0, .slice none 0 0], []⟩).memory :=
  laidMet_of_run3 10 (by kernel_rfl) (by kernel_rfl) (by kernel_rfl)
theorem reads (os : Os) {H : Type} (enc : TypeId × Value → H) : ∃ places, DataW.whole enc Tryz.prog ((laidWorld os).forCall (fun _ _ => 0) ⟨#[], #[.int .u64 0, .int .u64 0, .int .i64 0, .int .i64 0, .slice none 0 0], []⟩).memory Tryz.f5.params.toList Rows.topDueSpec.vars false (#[.int .u64 0, .int .u64 0, .int .i64 0, .int .i64 0, .slice none 0 0] : Array Value).toList 8 = some ([.lit (.int .u64 0), .lit (.int .u64 0), .lit (.int .i64 0), .lit (.int .i64 0), .nil], [], places) :=
  ⟨[], by kernel_rfl⟩

set_option maxRecDepth 100000 in
theorem lifted (os : Os) (started : os.Started) (H : Type) (enc : TypeId × Value → H) (F : Stop.Interp) :
    ReturnsInHanded {} Tryz.checked os 5 .any ((OpenSpec.ofChange Rows.topDueSpec).preRow enc Tryz.prog Tryz.f5 Rows.topDueRow.domain false Rows.topDueRow.laid) (((OpenSpec.ofChange Rows.topDueSpec).at F).post enc Tryz.prog Tryz.f5 false true false false) := by
  obtain ⟨places, hx⟩ := reads os enc
  refine returnsInHanded_of_row (C := Tryz.checked) (s := OpenSpec.ofChange Rows.topDueSpec) own started (by kernel_rfl) Tryz.func5
    (witness_row_atRef (enc := enc) (C := Tryz.checked) false (laidWorld os) #[.int .u64 0, .int .u64 0, .int .i64 0, .int .i64 0, .slice none 0 0] rfl (by kernel_rfl) (by kernel_rfl) (by kernel_rfl)
      (OpenSpec.preRow_of_cond 8 hx (by kernel_rfl) (fun k hk => by cases hk) (by kernel_rfl) (laid_met os))) ?_
  intro W base args ds gs before hval hW _ _ _ hL _ _
  exact contract H enc W base args ds gs before hval hW hL

set_option maxRecDepth 100000
theorem noneGoes (g : FuncId) : (Tryz.prog.funcs[g]?).any Func.goes = false := by
  cases h : Tryz.prog.funcs[g]? with
  | none => rfl
  | some fn =>
    have h1 := funcsGo
    rw [Array.any_eq_false] at h1
    obtain ⟨hi, e⟩ := Array.getElem?_eq_some_iff.1 h
    have := h1 g hi
    rw [e] at this
    simpa using this
theorem goes : Rows.topDueRow.goesBy Tryz.prog = false := by
  have h : Tryz.prog.goes 5 = false := by
    unfold Program.goes
    have h1 : ((Tryz.prog.closure 5).any fun g => (Tryz.prog.funcs[g]?).any Func.goes) = false := by
      rw [List.any_eq_false]
      intro g _
      rw [noneGoes g]
      simp
    rw [h1, funcsGo]
    simp
  have e : Rows.topDueRow.func = "detent/detenttop.TopDue" := rfl
  have e2 : Rows.topDueRow.start = .entering := rfl
  unfold OpenClaim.goesBy Program.goesAt Program.goesFrom
  rw [e, e2, fnNamed, Option.any_some, h]
  rfl
theorem closed : joinedFacts Tryz.prog 5 Tryz.f5 (OpenSpec.ofChange Rows.topDueSpec).bare Rows.topDueRow = true := by
  have hu : (Rows.topDueRow.unfollowed == Tryz.prog.unfollowed 5) = true := by rw [unfollowed]; rfl
  have hr : (Rows.topDueRow.recurses == Tryz.prog.recurses 5) = true := by rw [recurses]; rfl
  unfold joinedFacts
  rw [laidOut, rowed, inPlace, hu, hr, varsNamed, plainKeys, stopsHeard, mayEnter]
  show _ = true
  kernel_rfl

theorem said : Rows.TopDueSaid :=
  OpenClaim.holds_of_cond 5 Tryz.f5 rfl rfl rfl rfl rfl rfl rfl ⟨rfl, rfl, rfl, rfl, rfl⟩ rfl rfl rfl rfl rfl fnNamed Tryz.func5 closed
    (of_decide_eq_true (by kernel_rfl)) (by unfold Func.isWrapper; first | (rw [if_pos (by decide +kernel)]; kernel_rfl) | (rw [if_neg (by decide +kernel)]; exact ⟨rfl, rfl⟩))
    (fun os started H enc _ F => by rw [OpenClaim.pre_eq_preRow]; exact lifted os started H enc F)

/-- No parameter wants a stand-in; the program's own looks are off. -/
theorem plain (f : FuncId) (fn : Func) (hf : Tryz.pinned.checked.prog.funcNamed "detent/detenttop.TopDue" = some f) (hfn : Tryz.pinned.checked.prog.funcs[f]? = some fn) :
    false = Tryz.pinned.checked.prog.looks [] ∧ ∀ (j : Nat) t, fn.params[j]? = some t → Tryz.pinned.checked.prog.wantsStandIn t = false := by
  obtain rfl : f = 5 := Option.some.inj (fnNamed.symm.trans hf) |>.symm
  obtain rfl : fn = Tryz.f5 := (Option.some.inj (Tryz.func5.symm.trans hfn)).symm
  refine ⟨looks.symm, fun j t ht => ?_⟩
  rw [Tryz.params5] at ht
  have hm := Array.mem_of_getElem? ht
  simp only [List.mem_toArray, List.mem_cons, List.not_mem_nil, or_false] at hm
  rcases hm with rfl | rfl | rfl | rfl | rfl
  · exact (show Tryz.prog.wantsStandIn 25 = false by kernel_rfl)
  · exact (show Tryz.prog.wantsStandIn 25 = false by kernel_rfl)
  · exact (show Tryz.prog.wantsStandIn 3 = false by kernel_rfl)
  · exact (show Tryz.prog.wantsStandIn 3 = false by kernel_rfl)
  · exact (show Tryz.prog.wantsStandIn 54 = false by kernel_rfl)

theorem row_tie2 : Rows.topDueRow.laidByTextAt .later Tryz.pinned [.data, .data, .listed, .data, .data] true :=
  OpenClaim.laidByTextAt_later rfl rfl tie2 noOwnUnsafe2
/-- The card. -/
theorem proved : Rows.TopDueCardSaid :=
  Claim7.holds_tied_plain_at .later [] _ _ _ _ said (fun _ h => by cases h) (by kernel_rfl) (fun _ h => by cases h) row_tie2 rfl ⟨rfl, rfl⟩ (by kernel_rfl) rfl plain goes.symm
#print axioms proved
end Go.Proofs.YtkfeofhifmebkaaGreatDoor.topDue
