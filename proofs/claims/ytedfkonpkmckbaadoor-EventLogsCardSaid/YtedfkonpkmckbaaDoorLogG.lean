/- Same: are a log's events the document's? -/
import Derived.Test.YtedfkonpkmckbaaDoorLogA
import Derived.Deep.DeepCutAuto
import Derived.Deep.CutBlock
import Derived.Laws.StructEq
namespace Go.Proofs.YtedfkonpkmckbaaDoor
open Go.RowKit

theorem evCells {W : World} {b o t n : Nat} {kd a c : Int} (h : ∀ j, j < 5 → W.cell? ⟨b, o + j, none⟩ = some ((evC ⟨t, kd, a, c, n⟩).getD j undef)) :
    W.cell? ⟨b, o, none⟩ = some (.int .u64 (t : Int)) ∧ W.cell? ⟨b, o + 1, none⟩ = some (.int .i64 kd) ∧ W.cell? ⟨b, o + 2, none⟩ = some (.int .i64 a) ∧ W.cell? ⟨b, o + 3, none⟩ = some (.int .i64 c) ∧ W.cell? ⟨b, o + 4, none⟩ = some (.int .u64 (n : Int)) :=
  ⟨h 0 (by decide), h 1 (by decide), h 2 (by decide), h 3 (by decide), h 4 (by decide)⟩
set_option maxRecDepth 100000 in
set_option maxHeartbeats 4000000 in
theorem same_any {w : World} {u v : Value} {evs : List EvS} (hu : SlcS 5 w u (evs.map evC)) (hv : SlcS 5 w v (evs.map evC)) :
    Calls Tryd.prog 19 #[u, v] w fun r w' => r = .returned (.bool true) ∧ Keeps w w' := by
  obtain ⟨uq, uc, rfl, ul, uc', hu⟩ := hu.get
  obtain ⟨vq, vc, rfl, vl, vc', hv⟩ := hv.get
  rw [List.length_map] at ul vl hu hv ⊢
  have hl0 : (0 : Int) ≤ (evs.length : Int) := by omega
  replace hu := Lib.hid hu
  replace hv := Lib.hid hv
  go_enter Tryd.func19, Tryd.ntmps19
  go_wp2_with fail
  go_loopw [5] (fun iv wr => ∃ k : Nat, k ≤ evs.length ∧ iv = .int .i64 (k : Int) ∧ Keeps w wr) (fun iv _ => evs.length - (intOf iv).toNat)
  case atStart => exact ⟨0, Nat.zero_le _, rfl, Keeps.refl _⟩
  case round =>
    obtain ⟨k, hk, rfl, hK⟩ := hrel
    have hk0 : (0 : Int) ≤ (k : Int) := by omega
    by_cases hlt : k < evs.length
    · have hltI := Int.ofNat_lt.2 hlt
      obtain ⟨ub, uo, rfl, hcu⟩ := hu.out k hlt
      obtain ⟨vb, vo, rfl, hcv⟩ := hv.out k hlt
      have e0 : (evs.map evC).getD k [] = evC evs[k] := by simp [List.getD, hlt]
      rw [e0] at hcu hcv
      generalize evs[k] = e at hcu hcv
      have fo := fun (W : World) => to_any e W
      obtain ⟨t, kd, a, b, n⟩ := e
      obtain ⟨x0, x1, x2, x3, x4⟩ := evCells hcu
      obtain ⟨y0, y1, y2, y3, y4⟩ := evCells hcv
      have hh := Lib.hid (show ∀ w' : World, Keeps wr w' → (w'.cell? ⟨ub, uo + k * 5, none⟩ = some (.int .u64 (t : Int)) ∧ w'.cell? ⟨ub, uo + k * 5 + 1, none⟩ = some (.int .i64 kd) ∧ w'.cell? ⟨ub, uo + k * 5 + 2, none⟩ = some (.int .i64 a) ∧ w'.cell? ⟨ub, uo + k * 5 + 3, none⟩ = some (.int .i64 b) ∧ w'.cell? ⟨ub, uo + k * 5 + 4, none⟩ = some (.int .u64 (n : Int)) ∧ w'.cell? ⟨vb, vo + k * 5, none⟩ = some (.int .u64 (t : Int)) ∧ w'.cell? ⟨vb, vo + k * 5 + 1, none⟩ = some (.int .i64 kd) ∧ w'.cell? ⟨vb, vo + k * 5 + 2, none⟩ = some (.int .i64 a) ∧ w'.cell? ⟨vb, vo + k * 5 + 3, none⟩ = some (.int .i64 b) ∧ w'.cell? ⟨vb, vo + k * 5 + 4, none⟩ = some (.int .u64 (n : Int))) from fun w' h => by
        have h' := Keeps.trans hK h
        exact ⟨kcell h' x0, kcell h' x1, kcell h' x2, kcell h' x3, kcell h' x4, kcell h' y0, kcell h' y1, kcell h' y2, kcell h' y3, kcell h' y4⟩)
      replace hK := Lib.hid hK
      replace fo := Lib.hid fo
      clear hcu hcv e0 x0 x1 x2 x3 x4 y0 y1 y2 y3 y4
      go_upto_region 6 with (fail)
      go_region_held3 (fun w' => w'.cell? ⟨ub, uo + k * 5, none⟩ = some (.int .u64 (t : Int)) ∧ w'.cell? ⟨ub, uo + k * 5 + 1, none⟩ = some (.int .i64 kd) ∧ w'.cell? ⟨ub, uo + k * 5 + 2, none⟩ = some (.int .i64 a) ∧ w'.cell? ⟨ub, uo + k * 5 + 3, none⟩ = some (.int .i64 b) ∧ w'.cell? ⟨ub, uo + k * 5 + 4, none⟩ = some (.int .u64 (n : Int)) ∧ w'.cell? ⟨vb, vo + k * 5, none⟩ = some (.int .u64 (t : Int)) ∧ w'.cell? ⟨vb, vo + k * 5 + 1, none⟩ = some (.int .i64 kd) ∧ w'.cell? ⟨vb, vo + k * 5 + 2, none⟩ = some (.int .i64 a) ∧ w'.cell? ⟨vb, vo + k * 5 + 3, none⟩ = some (.int .i64 b) ∧ w'.cell? ⟨vb, vo + k * 5 + 4, none⟩ = some (.int .u64 (n : Int)))
        (first
          | (refine hh.out _ ?_; first | exact Keeps.drew _ | exact hKc)
          | go_keep)
        (first
          | (go_at_call 12; with_reducible refine (fo.out _).mono ?_; rintro e w2 ⟨rfl, hK2⟩; have hKc := Keeps.trans (Keeps.drew wr) hK2))
      all_goals
        have hKe := Lib.hid (Keeps.trans hK.out hKc)
        clear hKc hK2 hK hh
        go_wp2_with fail
        refine ⟨⟨k + 1, by omega, by go_num, hKe.out⟩, ?_⟩
        show evs.length - (intOf (.int .i64 ((k : Int) + 1))).toNat < evs.length - (intOf (.int .i64 (k : Int))).toNat
        simp only [intOf]; omega
    · obtain rfl : k = evs.length := by omega
      replace hK := Lib.hid hK
      go_wp2_with fail
      go_ret
      exact ⟨rfl, hK.out⟩
end Go.Proofs.YtedfkonpkmckbaaDoor
