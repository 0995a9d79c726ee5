/- The document's Of. -/
import Derived.Test.YtedfkonpkmckbaaDoorLogH
namespace Go.Proofs.YtedfkonpkmckbaaDoor
open Go.RowKit

/-- The events of some kinds. -/
def ofK (ks : List Int) (l : List EvS) : List EvS := l.filter fun e => decide (e.k ∈ ks)
theorem ofK_take (ks : List Int) (l : List EvS) (k : Nat) (h : k < l.length) : ofK ks (l.take (k + 1)) = ofK ks (l.take k) ++ (if decide (l[k].k ∈ ks) = true then [l[k]] else []) := by
  unfold ofK
  rw [List.take_succ_eq_append_getElem h, List.filter_append]
  congr 1
  simp only [List.filter_cons, List.filter_nil]
theorem ofK_len (ks : List Int) (l : List EvS) : (ofK ks l).length ≤ l.length := List.length_filter_le _ _
set_option maxRecDepth 100000 in
set_option maxHeartbeats 4000000 in
/-- **The document's Of**, in new memory. -/
theorem rof_any {w : World} {mv kv : Value} {ms : List EvS} {ks : List Int} (hm : SlcS 5 w mv (ms.map evC)) (hi : Ints w kv ks) (h4 : ms.length ≤ 4096) :
    Calls Tryd.prog 21 #[mv, kv] w fun r w' => ∃ u, r = .returned u ∧ RowS 5 w.heap.size 24 w' u ((ofK ks ms).map evC) ∧ Keeps w w' := by
  obtain ⟨q, xc, rfl, hl', hc', hcell'⟩ := hm.get
  obtain ⟨kq, kc, rfl, kl, kc', kn, kcel⟩ := hi
  rw [List.length_map] at hl' hcell' ⊢
  rw [List.length_map] at kl kcel ⊢
  unfold maxLen at kc'
  have hx0 : (0 : Int) ≤ (ms.length : Int) := by omega
  have hy0 : (0 : Int) ≤ (ks.length : Int) := by omega
  clear hm kn
  replace hcell' := Lib.hid hcell'
  replace kcel := Lib.hid kcel
  go_enter Tryd.func21, Tryd.ntmps21
  go_wp2_with fail
  go_loopw [5, 6] (fun o i wr => ∃ k : Nat, k ≤ ms.length ∧ i = .int .i64 (k : Int) ∧ RowS 5 w.heap.size 24 wr o ((ofK ks (ms.take k)).map evC) ∧ Keeps w wr) (fun _ i _ => ms.length - (intOf i).toNat)
  case atStart => exact ⟨0, Nat.zero_le _, rfl, RowS.nil _ _ _ _, Keeps.refl _⟩
  case round =>
    obtain ⟨k, hk, rfl, hrow, hK⟩ := hrel
    have hk0 : (0 : Int) ≤ (k : Int) := by omega
    obtain ⟨wo, hwo⟩ : ∃ x : World, x = wr := ⟨_, rfl⟩
    rw [← hwo] at hrow hK ⊢
    clear hwo
    by_cases hlt : k < ms.length
    · have hltI := Int.ofNat_lt.2 hlt
      have hstep := ofK_take ks ms k hlt
      have hlen := ofK_len ks (ms.take k)
      rw [List.length_take, Nat.min_eq_left hk] at hlen
      obtain ⟨cb, off, rfl, hcell⟩ := hcell'.out k hlt
      have e0 : (ms.map evC).getD k [] = evC ms[k] := by simp [List.getD, hlt]
      rw [e0] at hcell
      generalize ofK ks (ms.take k) = s at *
      generalize ms[k] = e at *
      obtain ⟨oq, oc, hos, _⟩ := hrow.slcs.get
      rw [List.length_map] at hos
      subst hos
      obtain ⟨t, kd, a, b, n⟩ := e
      have hx5 := Lib.hid (show ∀ w', Keeps wo w' → _ from fun w' h' => by
        obtain ⟨x0, x1, x2, x3, x4⟩ := evCells (fun j hj => kcell hK (hcell j hj))
        exact (⟨kcell h' x0, kcell h' x1, kcell h' x2, kcell h' x3, kcell h' x4⟩ : w'.cell? ⟨cb, off + k * 5, none⟩ = some (.int .u64 (t : Int)) ∧ w'.cell? ⟨cb, off + k * 5 + 1, none⟩ = some (.int .i64 kd) ∧ w'.cell? ⟨cb, off + k * 5 + 2, none⟩ = some (.int .i64 a) ∧ w'.cell? ⟨cb, off + k * 5 + 3, none⟩ = some (.int .i64 b) ∧ w'.cell? ⟨cb, off + k * 5 + 4, none⟩ = some (.int .u64 (n : Int))))
      replace hstep := Lib.hid hstep
      replace hK := Lib.hid hK
      replace hrow := Lib.hid hrow
      clear hcell e0
      go_wp2_with fail
      go_loopw [7, 8] (fun iv jv wr => ∃ j : Nat, j ≤ ks.length ∧ jv = .int .i64 (j : Int) ∧ iv = .bool (decide (kd ∈ ks.take j)) ∧ Keeps wo wr) (fun _ jv _ => ks.length - (intOf jv).toNat)
      case atStart => exact ⟨0, Nat.zero_le _, rfl, by simp, Keeps.refl _⟩
      case round =>
        obtain ⟨j, hj, rfl, rfl, hKj⟩ := hrel
        have hj0 : (0 : Int) ≤ (j : Int) := by omega
        by_cases hjl : j < ks.length
        · have hjI := Int.ofNat_lt.2 hjl
          obtain ⟨kb, ko, rfl, hkc⟩ := kcel.out j hjl
          have e1 : (ks.map (Value.int .i64)).getD j undef = .int .i64 ks[j] := by simp [List.getD, hjl]
          rw [e1] at hkc
          have hsc : ks.take (j + 1) = ks.take j ++ [ks[j]] := List.take_succ_eq_append_getElem hjl
          have z1 := (hx5.out wr hKj).2.1
          have kz := kcell (Keeps.trans hK.out hKj) hkc
          generalize ks[j] = y at *
          have hdec : (decide (kd ∈ ks.take (j + 1))) = (decide (kd ∈ ks.take j) || (y == kd)) := by
            rw [hsc]
            by_cases h1 : kd ∈ ks.take j
            · simp [h1]
            · by_cases h2 : y = kd
              · simp [h1, h2]
              · have : ¬ kd = y := fun e => h2 e.symm
                simp [h1, h2, this]
          replace hdec := Lib.hid hdec
          replace hKj := Lib.hid hKj
          clear hsc e1 hkc
          cases hin : decide (kd ∈ ks.take j) with
          | true =>
            rw [hin] at hdec
            go_wp2_with fail
            go_quiet (fail)
            rename_i nq
            go_wp2_with fail
            go_roundw
            case rel => exact ⟨j + 1, by omega, by go_num, by rw [hdec.out]; rfl, Keeps.trans hKj.out (Keeps.drewN _ _)⟩
            case measure => (simp [intOf]; try omega)
          | false =>
            rw [hin] at hdec
            go_wp2_with fail
            go_quiet (fail)
            rename_i nq
            go_wp2_with fail
            go_roundw
            case rel => exact ⟨j + 1, by omega, by go_num, by rw [hdec.out]; rfl, Keeps.trans hKj.out (Keeps.drewN _ _)⟩
            case measure => (simp [intOf]; try omega)
        · obtain rfl : j = ks.length := by omega
          rw [List.take_length]
          obtain ⟨z0, z1, z2, z3, z4⟩ := hx5.out wr hKj
          have hrow2 := rowS_keeps hrow.out hKj
          have hKe := Keeps.trans hK.out hKj
          cases hin : decide (kd ∈ ks) with
          | false =>
            have hst := hstep.out
            simp only [hin, Bool.false_eq_true, if_false, List.append_nil] at hst
            replace hst := Lib.hid hst
            replace hrow2 := Lib.hid hrow2
            replace hKe := Lib.hid hKe
            clear hstep hrow hK hKj hx5 z0 z1 z2 z3 z4
            go_wp2_with fail
            go_roundw
            case rel => exact ⟨k + 1, by omega, by go_num, by rw [hst.out]; exact hrow2.out, hKe.out⟩
            case measure => (simp [intOf]; try omega)
          | true =>
            have hst := hstep.out
            simp only [hin, if_true] at hst
            have hlen1 : (s.map evC).length + [evC ⟨t, kd, a, b, n⟩].length ≤ maxLen := by rw [List.length_map]; simp only [maxLen, List.length_singleton]; omega
            have hlen2 : ((s.map evC).length + [evC ⟨t, kd, a, b, n⟩].length) * 40 ≤ 140737488355328 := by rw [List.length_map]; simp only [List.length_singleton]; omega
            have hrow3 := rowS_keeps hrow2 (Keeps.alloc wr (.cells #[.int .u64 (t : Int), .int .i64 kd, .int .i64 a, .int .i64 b, .int .u64 (n : Int)] 24))
            have hKe3 := Keeps.trans hKe (Keeps.alloc wr (.cells #[.int .u64 (t : Int), .int .i64 kd, .int .i64 a, .int .i64 b, .int .u64 (n : Int)] 24))
            have hsrc : SlcS 5 _ _ _ := slcs_one (Blk.new wr 24 (evC ⟨t, kd, a, b, n⟩)) rfl
            replace hst := Lib.hid hst
            replace hrow3 := Lib.hid hrow3
            replace hKe3 := Lib.hid hKe3
            replace hsrc := Lib.hid hsrc
            replace hlen1 := Lib.hid hlen1
            replace hlen2 := Lib.hid hlen2
            clear hstep hrow hK hKj hx5 hrow2 hKe
            go_wp2_with (at_builtin; refine appN rfl _ _ 42 24 _ 5 40 rfl Tryd.underlying42 infoEvR rfl (by decide) w.heap.size _ _ rfl hrow3.out _ [evC ⟨t, kd, a, b, n⟩] rfl hsrc.out (fun el he => by obtain rfl := List.mem_singleton.1 he; exact evC_one _) hlen1.out hlen2.out hKe3.out.size ?_; intro v3 w3 hown3 hgr3 hbel3; have hK3 := Lib.hid (Below.trans hKe3.out hbel3); replace hown3 := Lib.hid hown3; clear hgr3 hbel3)
            go_roundw
            case rel => exact ⟨k + 1, by omega, by go_num, by rw [hst.out, List.map_append]; exact hown3.out, hK3.out⟩
            case measure => (simp [intOf]; try omega)
    · obtain rfl : k = ms.length := by omega
      rw [List.take_length] at hrow
      replace hK := Lib.hid hK
      replace hrow := Lib.hid hrow
      go_wp2_with fail
      go_ret
      exact ⟨_, rfl, hrow.out, hK.out⟩
end Go.Proofs.YtedfkonpkmckbaaDoor
