/- The statement PendOrderSaid: for every input the law PendOrder returns true, and each argument reads as it read. Under no condition of ours. -/
import Derived.Test.YtlihpmfponkmjaaPlain
import Derived.Test.YtlihpmfponkmjaaLaw25d
namespace Go.Proofs.Ytlihpmfponkmjaa.pendOrder
open Go.ChangeShapes Go.WideShapes Go.ChangeAt Go.RowKit

theorem params : ∀ t ∈ Try.f4.params.toList, Try.prog.readableRec t = true ∧ t < Try.prog.types.size := by
  rw [Try.params4]
  intro t ht
  simp only [List.mem_cons, List.not_mem_nil, or_false] at ht
  rcases ht with rfl | rfl | rfl | rfl
  · exact ⟨(show Try.prog.readableRec 3 = true by kernel_rfl), of_decide_eq_true (by kernel_rfl)⟩
  · exact ⟨(show Try.prog.readableRec 3 = true by kernel_rfl), of_decide_eq_true (by kernel_rfl)⟩
  · exact ⟨(show Try.prog.readableRec 32 = true by kernel_rfl), of_decide_eq_true (by kernel_rfl)⟩
  · exact ⟨(show Try.prog.readableRec 32 = true by kernel_rfl), of_decide_eq_true (by kernel_rfl)⟩

set_option maxRecDepth 100000 in
theorem contract (H : Type) (enc : TypeId × Value → H) (W : World) (base : Nat) (args : Array Value) (ds gs : List (DataW H)) (before : List MemPlace)
    (hval : ∀ (j : Nat) t v, Try.f4.params[j]? = some t → args[j]? = some v → Value.okWide Try.prog W .any base t v)
    (hW : DataW.Whole enc Try.prog Try.f4.params.toList Rows.pendOrderSpec.vars false W args.toList ds gs before) :
    Calls Try.prog 4 args W fun e W' => ∃ v, e = .returned v ∧ Rows.pendOrderSpec.post enc Try.prog Try.f4 false true false false W args v W' := by
  have hW' := hW
  obtain ⟨p, q, hA0, hV, rfl, hfz, hnd⟩ := hW
  have hA : DataW.TrodAll enc Try.prog W 0 (fun _ => true) true Try.f4.params.toList args.toList ds p := hA0
  rw [Try.params4] at hA hval
  obtain ⟨v0, vs0, d0, ds0, p0, q0, hargs, rfl, rfl, h0, r0⟩ := trodAll_cons hA
  obtain ⟨v1, vs1, d1, ds1, p1, q1, rfl, rfl, rfl, h1, r1⟩ := trodAll_cons r0
  obtain ⟨v2, vs2, d2, ds2, p2, q2, rfl, rfl, rfl, h2, r2⟩ := trodAll_cons r1
  obtain ⟨v3, vs3, d3, ds3, p3, q3, rfl, rfl, rfl, h3, r3⟩ := trodAll_cons r2
  obtain ⟨rfl, rfl, rfl⟩ := trodAll_nil r3
  obtain rfl : args = #[v0, v1, v2, v3] := by cases args; simp_all
  obtain ⟨cpus, rfl, b0, b0'⟩ := int_open Try.underlying3 (hval 0 3 v0 rfl rfl) h0
  obtain ⟨cpu, rfl, b1, b1'⟩ := int_open Try.underlying3 (hval 1 3 v1 rfl rfl) h1
  obtain ⟨ids, i2, b2⟩ := ints_open Try.underlying32 Try.underlying3 (by kernel_rfl) (hval 2 32 v2 rfl rfl) h2
  obtain ⟨del, i3, b3⟩ := ints_open Try.underlying32 Try.underlying3 (by kernel_rfl) (hval 3 32 v3 rfl rfl) h3
  clear hA0
  refine (lawOrder_any cpus cpu v2 v3 ids del W i2 i3).mono fun e W' ⟨he, hk⟩ => ?_
  subst he
  exact ⟨_, rfl, law_post (tb := 4) laidOut params rfl (show Try.f4.resultTypes = _ by kernel_rfl) Try.underlying4 (fun ds hd => by
    rw [Try.params4] at hd
    match ds, hd with
    | [d0, d1, d2, d3], _ => rfl) hW' hk⟩

set_option maxRecDepth 100000 in
theorem lifted (os : Os) (started : os.Started) (H : Type) (enc : TypeId × Value → H) :
    ReturnsInHanded {} Try.checked os 4 .any (Rows.pendOrderSpec.pre6 enc Try.prog Try.f4 Rows.pendOrderRow.domain false) (Rows.pendOrderSpec.post enc Try.prog Try.f4 false true false false) := by
  refine returnsInHanded_of_change (C := Try.checked) own started (by kernel_rfl) Try.func4
    (ChangeSpec.witness6 (enc := enc) (C := Try.checked) false ⟨#[], #[.int .i64 0, .int .i64 0, .slice none 0 0, .slice none 0 0], []⟩ 8 (by kernel_rfl) (by kernel_rfl) (by kernel_rfl) (by kernel_rfl)) ?_
  intro W base args ds gs before hval hW _ _
  exact contract H enc W base args ds gs before hval hW

theorem proved : Rows.PendOrderSaid :=
  OpenClaim.holds_of_wide 4 Try.f4 rfl rfl rfl rfl rfl rfl rfl ⟨rfl, rfl, rfl, rfl, rfl⟩ rfl rfl rfl rfl rfl (by kernel_rfl) Try.func4 (by kernel_rfl)
    (of_decide_eq_true (by kernel_rfl)) (by unfold Func.isWrapper; first | (rw [if_pos (by decide +kernel)]; kernel_rfl) | (rw [if_neg (by decide +kernel)]; exact ⟨rfl, rfl⟩))
    (fun os started H enc _ => lifted os started H enc)
#print axioms proved
end Go.Proofs.Ytlihpmfponkmjaa.pendOrder
