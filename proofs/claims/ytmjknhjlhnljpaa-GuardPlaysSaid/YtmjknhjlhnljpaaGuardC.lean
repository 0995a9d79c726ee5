/- The walk of Exit. -/
import Derived.Test.YtmjknhjlhnljpaaGuardB
namespace Go.Proofs.Ytmjknhjlhnljpaa
open Go.RowKit
set_option maxHeartbeats 400000 in
theorem exit_no (q : Value) (c : Int) (v : Value) (w : World) (h : q = .pointer none ∨ ∃ p b ms cs, q = .pointer (some ⟨p, 0, none⟩) ∧ GuardAt w p b ms cs ∧ (c < 0 ∨ (ms.length : Int) ≤ c)) :
    Calls Try.prog 10 #[q, .int .i64 c, v] w fun e w' => e = .returned (.int .i64 0) ∧ w = w' := by
  have hi : Calls Try.prog 24 #[q, .int .i64 c] w fun e w' => e = .returned (.bool false) ∧ w = w' := by
    rcases h with rfl | ⟨p, b, ms, cs, rfl, h, hc⟩
    · exact is_nil c w
    · have := is_any h c
      rwa [show (decide (0 ≤ c) && decide (c < (ms.length : Int))) = false by rcases hc with h | h <;> simp <;> omega] at this
  clear h
  go_enter Try.func10, Try.ntmps10
  go_wp2_with fail
  refine hi.mono ?_
  rintro e w' ⟨rfl, rfl⟩
  go_wp2_with fail
  go_ret
  exact ⟨rfl, rfl⟩
set_option maxRecDepth 100000 in
set_option maxHeartbeats 800000 in
theorem exit_yes {p b : Nat} {ms cs : List Nat} {w : World} (h : GuardAt w p b ms cs) (k : Nat) (hk : k < ms.length) (v : Value) (zs : List Int) (hz : Ints w v zs) :
    Calls Try.prog 10 #[.pointer (some ⟨p, 0, none⟩), .int .i64 k, v] w fun e w' => e = .returned (.int .i64 ((lenN (ms.getD k 0) : Int) - lenN (withoutN (ms.getD k 0) zs))) ∧ GuardAt w' p b (ms.set k (withoutN (ms.getD k 0) zs)) cs ∧ Mut p b w w' := by
  have hi := is_yes h k hk
  have hlt : ms.getD k 0 < 18446744073709551616 := getD_mem (P := fun m => m < 18446744073709551616) h.words hk
  have hlt2 := withoutN_lt zs _ hlt
  have c0 := h.head
  have c1 := h.word k hk
  have f1 := h.buf.frozen k
  have hk0 : (0 : Int) ≤ (k : Int) := by omega
  have hk1 : (k : Int) < (ms.length : Int) := by omega
  have hset := fun W (h : GuardAt W p b ms cs) => h.setWord k (withoutN (ms.getD k 0) zs) hlt2
  have hlen1 := fun W => len_any (ms.getD k 0) W hlt
  have hlen2 := fun W => len_any (withoutN (ms.getD k 0) zs) W hlt2
  have hwo := fun n => without_any (ms.getD k 0) v zs (w.drewN n) hlt (Slc.below hz (Keeps.drewN w n))
  have hne := h.ne
  have hh0 := Lib.hid h
  have b1 : lenN (ms.getD k 0) ≤ 64 := by unfold lenN listN; exact Nat.le_trans (List.length_filter_le _ _) (by simp)
  have b2 : lenN (withoutN (ms.getD k 0) zs) ≤ 64 := by unfold lenN listN; exact Nat.le_trans (List.length_filter_le _ _) (by simp)
  have hw : IntKind.i64.wrap ((lenN (ms.getD k 0) : Int) - lenN (withoutN (ms.getD k 0) zs)) = (lenN (ms.getD k 0) : Int) - lenN (withoutN (ms.getD k 0) zs) := IntWalk.i64_in _ (by omega)
  replace hset := Lib.hid hset
  replace hlen1 := Lib.hid hlen1
  replace hlen2 := Lib.hid hlen2
  replace hwo := Lib.hid hwo
  clear h hz b1 b2
  generalize withoutN (ms.getD k 0) zs = m2 at *
  generalize ms.getD k 0 = m at *
  go_enter Try.func10, Try.ntmps10
  go_wp2_with fail
  refine hi.mono ?_
  rintro e w' ⟨rfl, rfl⟩
  go_wp2_with fail
  refine region_quiet_tail 9 (by kernel_rfl) (by kernel_rfl) ?_
  simp only [List.take_succ_cons, List.take_zero, List.drop_succ_cons, List.drop_zero]
  repeat (quiet_step ((with_reducible exact Go.Proofs.Ytmjknhjlhnljpaa.Calls.quiet_same (hwo.out _))))
  refine wpQuiet_nil ?_
  rintro _ ⟨nh, rfl⟩
  go_wp2_with fail
  go_quiet (first | (with_reducible exact Go.Proofs.Ytmjknhjlhnljpaa.Calls.quiet_same (hlen1.out _)) | (with_reducible exact Go.Proofs.Ytmjknhjlhnljpaa.Calls.quiet_same (hlen2.out _)))
  go_wp2_with fail
  go_ret
  exact ⟨rfl, (hset.out _ (hh0.out.keeps (Keeps.drewN w nh))).keeps (Keeps.drewN _ _), ((Mut.of_keeps (Keeps.drewN _ _)).trans (Mut.setB _ _)).drewN _⟩
end Go.Proofs.Ytmjknhjlhnljpaa
