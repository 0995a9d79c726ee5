/- The walks of package ring, at integers: Take, List, Room. -/
import Derived.Test.YtcggbfpangnllaaRingI
import Derived.Test.YtcggbfpangnllaaIter
namespace Go.Proofs.Ytcggbfpangnllaa.i64
open Go.RowKit Go.Shelf
attribute [local go_sem] Oper.semAt_some

theorem RingAt.setAt {w : World} {p b room hd : Nat} {xs : List Int} (h : RingAt w p b room hd xs) (j : Nat) (hj : j < xs.length) (x : Int) :
    RingAt (w.setCell ⟨b, (hd + j) % room, none⟩ (.int .i64 x)) p b room hd (xs.set j x) := by
  obtain ⟨hne, hb, ⟨cs, hbuf, hcl, hcs⟩, h1, h2, h3, h4⟩ := h
  refine ⟨hne, ?_, ⟨cs.set ((hd + j) % room) (.int .i64 x), hbuf.set _ _, by simp [hcl], ?_⟩, h1, by simpa using h2, h3, h4⟩
  · rw [List.length_set]; exact hb.other hne _ _
  · intro i hi
    rw [List.length_map, List.length_set] at hi
    have hm : (hd + j) % room < room := Nat.mod_lt _ (by omega)
    by_cases he : j = i
    · subst he
      simp [List.getD, hcl, hm, hi]
    · have hne' : (hd + j) % room ≠ (hd + i) % room := by
        intro h
        rcases mod_two (hd + j) room (by omega) with h5 | h5 <;> rcases mod_two (hd + i) room (by omega) with h6 | h6 <;> omega
      have := hcs i (by simpa using hi)
      simp only [List.getD, List.getElem?_set, hne', if_false] at this ⊢
      rw [this]
      simp [he]
/-- What the ring holds where the things ahead of k are still to move. -/
def moved (xs : List Int) (i k : Nat) : List Int := xs.take (k + 1) ++ ((xs.drop k).take (i - k) ++ xs.drop (i + 1))
theorem moved_len (xs : List Int) (i k : Nat) (hi : i < xs.length) (hk : k ≤ i) : (moved xs i k).length = xs.length := by simp [moved]; omega
theorem moved_start (xs : List Int) (i : Nat) : moved xs i i = xs := by simp [moved]
theorem moved_end (xs : List Int) (i : Nat) (hi : i < xs.length) : ∃ x, moved xs i 0 = x :: (xs.take i ++ xs.drop (i + 1)) := by
  cases xs with
  | nil => simp at hi
  | cons x xs => exact ⟨x, by simp [moved]⟩
theorem moved_at (xs : List Int) (i k j : Nat) (hi : i < xs.length) (hk : k ≤ i) : (moved xs i k).getD j 0 = if j ≤ k then xs.getD j 0 else if j ≤ i then xs.getD (j - 1) 0 else xs.getD j 0 := by
  have e1 : min (k + 1) xs.length = k + 1 := by omega
  have e2 : min (i - k) (xs.length - k) = i - k := by omega
  simp only [moved, List.getD, List.getElem?_append, List.length_take, List.length_drop, List.getElem?_take, List.getElem?_drop, e1, e2]
  by_cases h1 : j ≤ k
  · rw [if_pos (by omega), if_pos (by omega), if_pos h1]
  · rw [if_neg (by omega), if_neg h1]
    by_cases h2 : j ≤ i
    · rw [if_pos (by omega), if_pos (by omega), if_pos h2, show k + (j - (k + 1)) = j - 1 by omega]
    · rw [if_neg (by omega), if_neg h2, show i + 1 + (j - (k + 1) - (i - k)) = j by omega]
theorem moved_get (xs : List Int) (i k : Nat) (hi : i < xs.length) (hk : k < i) : (moved xs i (k + 1)).getD k 0 = xs.getD k 0 := by
  rw [moved_at xs i (k + 1) k hi (by omega), if_pos (by omega)]
theorem getD_set (l : List Int) (k j : Nat) (x : Int) (hk : k < l.length) : (l.set k x).getD j 0 = if k = j then x else l.getD j 0 := by
  simp only [List.getD, List.getElem?_set]
  split
  · rfl
  · rfl
theorem ext_getD {l l' : List Int} (hl : l.length = l'.length) (h : ∀ j, l.getD j 0 = l'.getD j 0) : l = l' := by
  apply List.ext_getElem hl
  intro j h1 h2
  have := h j
  simpa [List.getD, h1, h2] using this
theorem moved_step (xs : List Int) (i k : Nat) (hi : i < xs.length) (hk : k < i) : (moved xs i (k + 1)).set (k + 1) (xs.getD k 0) = moved xs i k := by
  apply ext_getD
  · rw [List.length_set, moved_len _ _ _ hi (by omega), moved_len _ _ _ hi (by omega)]
  · intro j
    rw [getD_set _ _ _ _ (by rw [moved_len _ _ _ hi (by omega)]; omega), moved_at xs i (k + 1) j hi (by omega), moved_at xs i k j hi (by omega)]
    by_cases h1 : k + 1 = j
    · subst h1; rw [if_pos rfl, if_neg (by omega), if_pos (by omega)]; rfl
    · rw [if_neg h1]
      by_cases h2 : j ≤ k
      · rw [if_pos (by omega), if_pos h2]
      · rw [if_neg (by omega), if_neg h2]

set_option maxHeartbeats 1000000 in
theorem take_no (q : Value) (i : Int) (w : World) (h : q = .pointer none ∨ ∃ p b room hd xs, q = .pointer (some ⟨p, 0, none⟩) ∧ RingAt w p b room hd xs ∧ (i < 0 ∨ (xs.length : Int) ≤ i)) :
    Calls Try.prog 64 #[q, .int .i64 i] w fun e w' => e = .returned (.tuple #[.int .i64 0, .bool false]) ∧ w = w' := by
  have hat := at_no q i w h
  clear h
  go_enter Try.func64, Try.ntmps64
  go_wp2_with fail
  refine hat.mono ?_
  rintro e w' ⟨rfl, rfl⟩
  go_wp2_with fail
  go_ret2
  exact ⟨rfl, rfl⟩
set_option maxRecDepth 100000 in
set_option maxHeartbeats 2000000 in
theorem take_yes {p b room hd : Nat} {xs : List Int} {w : World} (i : Nat) (h : RingAt w p b room hd xs) (hi : i < xs.length) :
    Calls Try.prog 64 #[.pointer (some ⟨p, 0, none⟩), .int .i64 i] w fun e w' => e = .returned (.tuple #[.int .i64 xs[i], .bool true]) ∧ RingAt w' p b room ((hd + 1) % room) (xs.take i ++ xs.drop (i + 1)) ∧ Mut p b w w' := by
  have hat := at_yes i h hi
  have hle := h.len
  have hlo := h.lo
  have hhi := h.hi
  have hne := h.ne
  obtain ⟨y, hend⟩ := moved_end xs i hi
  replace hend := Lib.hid hend
  have hh := Lib.hid h
  have hMi := Lib.hid (moved_start xs i)
  clear h
  generalize xs[i] = x at *
  go_enter Try.func64, Try.ntmps64
  go_wp2_with fail
  refine hat.mono ?_
  rintro e w1 ⟨rfl, n1, rfl⟩
  go_wp2_with fail
  go_loopw [8] (fun t wr => ∃ k : Nat, k ≤ i ∧ t = .int .i64 k ∧ RingAt wr p b room hd (moved xs i k) ∧ Mut p b w wr) (fun t _ => (intOf t).toNat)
  case atStart => exact ⟨i, Nat.le_refl _, rfl, by rw [hMi.out]; exact hh.out.keeps (Keeps.drewN _ _), Mut.of_keeps (Keeps.drewN _ _)⟩
  case round =>
    obtain ⟨k, hk, rfl, hR, hM⟩ := hrel
    cases k with
    | zero =>
      have hpop := pop_yes (by rw [hend.out] at hR; exact hR)
      clear hat
      go_wp2_with fail
      refine hpop.mono ?_
      rintro e w2 ⟨rfl, hR2, hM2⟩
      go_wp2_with fail
      go_ret2
      exact ⟨rfl, hR2, hM.trans hM2⟩
    | succ k =>
      have hml := moved_len xs i (k + 1) hi hk
      have hlt : k + 1 < (moved xs i (k + 1)).length := by omega
      have hR' := fun n => (hR.keeps (Keeps.drewN wr n)).setAt (k + 1) hlt (xs.getD k 0)
      rw [moved_step xs i k hi (by omega)] at hR'
      have c0 := hR.hdr.cell 0 (by simp)
      simp only [List.getElem_cons_zero] at c0
      have hp1 := fun n => place_any p b room hd _ ((k + 1 : Nat) : Int) (wr.drewN n) hR.hdr hR.hdlt hlo hhi (by omega) (by omega)
      have hp2 := fun n => place_any p b room hd _ (k : Int) (wr.drewN n) hR.hdr hR.hdlt hlo hhi (by omega) (by omega)
      simp only [Int.toNat_natCast] at hp1 hp2
      obtain ⟨cs, hbuf, hcl, hcs⟩ := hR.buf
      have hj1 : (hd + (k + 1)) % room < room := Nat.mod_lt _ (by omega)
      have hj2 : (hd + k) % room < room := Nat.mod_lt _ (by omega)
      have cj := hbuf.cellD ((hd + k) % room) (by omega)
      have hv := hcs k (by rw [List.length_map]; omega)
      rw [hv, show ((moved xs i (k + 1)).map (Value.int .i64)).getD k undef = .int .i64 ((moved xs i (k + 1)).getD k 0) by simp [List.getD, show k < (moved xs i (k + 1)).length by omega], moved_get xs i k hi (by omega)] at cj
      have dj := hbuf.cellD ((hd + (k + 1)) % room) (by omega)
      have fj := hbuf.frozen ((hd + (k + 1)) % room)
      replace hR' := Lib.hid hR'
      replace hp1 := Lib.hid hp1
      replace hp2 := Lib.hid hp2
      replace hml := Lib.hid hml
      clear hR hcs hv hbuf hcl hlt hat
      generalize xs.getD k 0 = z at *
      generalize (hd + (k + 1)) % room = j1 at *
      generalize (hd + k) % room = j2 at *
      rw [show ((k + 1 : Nat) : Int) = (k : Int) + 1 by omega] at *
      have hwk : IntKind.i64.wrap (k : Int) = k := IntWalk.i64_in _ (by omega)
      go_wp2_with fail
      refine region_quiet_tail 18 (by kernel_rfl) (by kernel_rfl) ?_
      simp only [List.take_succ_cons, List.take_zero, List.drop_succ_cons, List.drop_zero]
      repeat (quiet_step (first | (with_reducible exact Calls.quiet_of (hp1.out _)) | (with_reducible exact Calls.quiet_of (hp2.out _))))
      refine wpQuiet_nil ?_
      rintro _ ⟨nq, rfl⟩
      go_wp2_with fail
      go_roundw
      case rel => exact ⟨k, by omega, by go_num, hR'.out nq, (hM.drewN nq).trans (Mut.setB _ _)⟩
      case measure => (simp [intOf]; try omega)

set_option maxRecDepth 100000 in
set_option maxHeartbeats 1000000 in
/-- **r.all()'s function.** -/
theorem all1_in (l B n₀ p b room hd : Nat) (xs : List Int) (J Jx : List Int → World → Prop) (W : World)
    (hY : ∀ pre x W1, J pre W1 → pre.length < xs.length → YieldAt Fence.wide 7 Try.prog l #[.int .i64 x] W1 fun e W' =>
      (e = .returned (.bool true) ∧ J (pre ++ [x]) W' ∧ KeepB n₀ B W1 W') ∨ (e = .returned (.bool false) ∧ Jx (pre ++ [x]) W'))
    (hJd : ∀ pre W1 n, J pre W1 → J pre (W1.drewN n))
    (hB : Boxed W B 97 (.pointer (some ⟨p, 0, none⟩))) (hp : p < n₀) (hb : b < n₀) (hR : RingAt W p b room hd xs) (h0 : J [] W) :
    CallsIn Fence.wide 8 Try.prog 81 #[.func (.yield l) #[] #[], .pointer (some ⟨B, 0, none⟩)] W fun e W' => (∃ v, e = .returned v) ∧
      ((∃ ys, ys = xs ∧ J ys W') ∨ (∃ pre, pre <+: xs ∧ Jx pre W')) := by
  have hle := hR.len
  have hlo := hR.lo
  have hhi := hR.hi
  have hBc := hB.cell
  refine callsIn_of_wp Try.func81 rfl trivial ?_ rfl
  simp only [Try.ntmps81, List.size_toArray, List.length_cons, List.length_nil, Nat.reduceAdd, Nat.reduceSub, Array.replicate_succ, Array.replicate_zero, List.push_toArray, List.append_toArray, List.nil_append, List.cons_append]
  gi_wp2_with (refine ⟨trivial, ?_⟩; gi_at_call 60; refine (callsIn_wide.2 (len_any hR)).mono ?_; rintro e w' ⟨rfl, rfl⟩)
  gi_loopw [6] (fun i wr => ∃ k : Nat, k ≤ xs.length ∧ i = .int .i64 k ∧ KeepB n₀ B W wr ∧ J (xs.take k) wr) (fun i _ => xs.length - (intOf i).toNat)
  case atStart => exact ⟨0, Nat.zero_le _, rfl, KeepB.refl _ _ _, h0⟩
  case round =>
    obtain ⟨k, hk, rfl, hbel, hJs⟩ := hrel
    by_cases hlt : k < xs.length
    · have hRr := hR.below hbel.1 hp hb
      have hBr := (hbel.2 _ _ hB).cell
      have c0 := hRr.hdr.cell 0 (by simp)
      simp only [List.getElem_cons_zero] at c0
      obtain ⟨cs, hbuf, hcl, hcs⟩ := hRr.buf
      have hj : (hd + k) % room < room := Nat.mod_lt _ (by omega)
      have cj := hbuf.cellD ((hd + k) % room) (by omega)
      have hv := hcs k (by simpa using hlt)
      rw [hv, show (xs.map (Value.int .i64)).getD k undef = .int .i64 xs[k] by simp [List.getD, hlt]] at cj
      have hpl := fun n => place_any p b room hd _ (k : Int) (wr.drewN n) hRr.hdr hRr.hdlt hlo hhi (by omega) (by omega)
      simp only [Int.toNat_natCast] at hpl
      have hy0 := fun n => hY (xs.take k) xs[k] (wr.drewN n) (hJd _ _ _ hJs) (by rw [List.length_take]; omega)
      have hnext := Lib.hid (show xs.take (k + 1) = xs.take k ++ [xs[k]] by rw [List.take_succ_eq_append_getElem hlt])
      replace hpl := Lib.hid hpl
      replace hy0 := Lib.hid hy0
      replace hY := Lib.hid hY
      replace hJd := Lib.hid hJd
      clear hRr hbuf hcl hcs hv
      generalize (hd + k) % room = j at *
      generalize xs[k] = x at *
      gi_wp2
      refine regionIn_quiet_tail (r := none) 10 (by kernel_rfl) (by kernel_rfl) (by kernel_rfl) ?_
      simp only [List.take_succ_cons, List.take_zero, List.drop_succ_cons, List.drop_zero]
      repeat (quiet_step ((with_reducible exact Calls.quiet_of (hpl.out _))))
      refine wpQuiet_nil ?_
      rintro _ ⟨nq, rfl⟩
      obtain ⟨fn, tmps, assign, body, hy, hRd⟩ := hy0.out nq
      gi_wp2
      refine hRd.mono ?_
      rintro e W3 (⟨rfl, hJ3, hk3⟩ | ⟨rfl, hJx3⟩)
      · gi_wp2
        go_roundw
        case rel => exact ⟨k + 1, by omega, by go_num, hbel.trans (KeepB.trans ⟨below_drewN (Below.refl _ _) _, fun _ _ h => h⟩ hk3), by rw [hnext.out]; exact hJ3⟩
        case measure => (simp [intOf]; try omega)
      · gi_wp2
        refine bodyPost_ret (results_none rfl _ _ _) rfl ?_
        exact ⟨⟨_, rfl⟩, .inr ⟨xs.take k ++ [x], ⟨xs.drop (k + 1), by rw [← hnext.out, List.take_append_drop]⟩, hJx3⟩⟩
    · obtain rfl : k = xs.length := by omega
      rw [List.take_of_length_le (Nat.le_refl _)] at hJs
      gi_wp2
      go_end0
      exact ⟨⟨_, rfl⟩, .inl ⟨xs, rfl, hJs⟩⟩

theorem all_stops (B n₀ p b room hd : Nat) (xs : List Int) (w : World) (hB : Boxed w B 97 (.pointer (some ⟨p, 0, none⟩))) (hp : p < n₀) (hb : b < n₀) (hR : RingAt w p b room hd xs) :
    SeqStopsK Fence.wide 8 Try.prog 81 #[.pointer (some ⟨B, 0, none⟩)] (fun x : Int => #[Value.int .i64 x]) (KeepB n₀ B) (fun ys => ys = xs) (fun pre => pre <+: xs) xs.length w := fun l J Jx W hW hJ _ hY h0 =>
  all1_in l B n₀ p b room hd xs J Jx W hY (fun pre W1 n h => hJ pre W1 _ none h ⟨rfl, rfl, rfl, Nat.le_refl _, fun _ _ _ => rfl⟩ (fun r e => by cases e))
    ((hW.block B hB.lt).trans hB) hp hb (hR.keeps hW) h0

set_option maxHeartbeats 400000 in
theorem all_any (q : Value) (hq : ∃ a, q = .pointer a) (w : World) :
    Calls Try.prog 80 #[q] w fun e w' => e = .returned (.func (.func 81) #[] #[.pointer (some ⟨w.heap.size, 0, none⟩)]) ∧ w.alloc (.cells #[q] 97) = w' := by
  obtain ⟨a, rfl⟩ := hq
  go_enter Try.func80, Try.ntmps80
  go_wp2
  go_ret
  exact ⟨rfl, rfl⟩

theorem infoInt : (Try.prog.info? 3).map (fun i => (i.zero, i.size, i.bytes)) = some (some (.int .i64 0), 1, 8) := by kernel_rfl
set_option maxRecDepth 100000 in
set_option maxHeartbeats 2000000 in
/-- **List**, in new memory. -/
theorem list_any {p b room hd : Nat} {xs : List Int} {w : World} (hR : RingAt w p b room hd xs) :
    Calls Try.prog 79 #[.pointer (some ⟨p, 0, none⟩)] w fun e w' => ∃ v, e = .returned v ∧ w'.ownsRow w.heap.size 3 1 v xs.length (xs.map (Value.int .i64)) ∧ Keeps w w' := by
  obtain ⟨hpl, hbl⟩ := hR.lt
  have hlen := hR.len
  have hhi := hR.hi
  refine (callsIn_wide (n := 9)).1 ?_
  refine callsIn_of_wp_marks Try.func79 rfl trivial ?_ rfl
  simp only [Try.ntmps79, List.size_toArray, List.length_cons, List.length_nil, Nat.reduceAdd, Nat.reduceSub, Array.replicate_succ, Array.replicate_zero, List.push_toArray, List.append_toArray, List.nil_append, List.cons_append]
  gi_wp2_with (refine ⟨trivial, ?_⟩; gi_at_call 80; refine (callsIn_wide.2 (all_any _ ⟨_, rfl⟩ _)).mono ?_; rintro e w' ⟨rfl, rfl⟩)
  have bO := Boxed.new w 22 (.slice none 0 0)
  have bM := Boxed.new (w.alloc (.cells #[.slice none 0 0] 22)) 97 (.pointer (some ⟨p, 0, none⟩))
  rw [World.size_alloc] at bM
  have hB0 : Below w.heap.size w ((w.alloc (.cells #[.slice none 0 0] 22)).alloc (.cells #[.pointer (some ⟨p, 0, none⟩)] 97)) := ((Below.refl _ w).alloc (Nat.le_refl _) _).alloc (by simp) _
  refine iter_ruleB w (w.heap.size + 1) (gf := 81) (lb := #[.pointer (some ⟨w.heap.size + 1, 0, none⟩)]) rfl (enters_of Try.func81 (by kernel_rfl) rfl)
    (all_stops (w.heap.size + 1) w.heap.size p b room hd xs _ bM hpl hbl (hR.keeps hB0)) (Below.refl _ _) hB0 (fun _ => rfl)
    (fun pre W => ∃ v, Boxed W w.heap.size 22 v ∧ W.ownsRow w.heap.size 3 1 v pre.length (pre.map (Value.int .i64)) ∧ Boxed W (w.heap.size + 1) 97 (.pointer (some ⟨p, 0, none⟩)))
    (fun c pre W => False)
    (fun pre => Stays.ex fun v => (Stays.boxed _ _ _ _).and (Stays.row.and (Stays.boxed _ _ _ _)))
    (fun c pre => Stays.pure _ _)
    ⟨_, bO.alloc _, World.ownsRow_nil _ _ _ _, bM⟩
    ?a1 ?assign ?body ?done ?stop
  case assign =>
    intro l x W K hK
    gi_wp2
    exact hK
  case body =>
    rintro l pre x W hb hlt ⟨v, hv, hrow, hbx⟩
    have hc := hv.cell
    gi_wp2_with (gi_at_builtin; refine app1In rfl _ _ 22 3 (.int .i64 0) 8 rfl Try.underlying22 infoInt rfl w.heap.size _ _ _ rfl hrow _ rfl rfl (by unfold maxLen; omega) (by omega) hb.size ?_; intro g cap w1 hown' hgrow hbel; obtain ⟨hv1, hv2, hr2, hk2, hb2⟩ := hv.appended (by decide) hrow hb.size (Nat.le_refl _) hown' hgrow; have hc1 := hv1.cell; have hf1 := hv1.frozen; have hbx1 := ((hbx.alloc (.cells #[.int .i64 x] 3)).kept hgrow (hbx.not_row (by decide) hrow)).other (B' := w.heap.size) (by omega) (.slice (some ⟨g, 0, none⟩) (pre.length + 1) cap))
    refine ⟨⟨hk2.from _, hb2, _, hv2, ?_, hbx1⟩, hb2, fun t u hq => ?_⟩
    · rw [List.length_append, List.map_append]
      exact hr2
    · have e := (show W.heap[w.heap.size + 1]? = _ from hbx).symm.trans (show W.heap[w.heap.size + 1]? = _ from hq)
      simp only [Option.some.injEq, Obj.cells.injEq] at e
      obtain ⟨e1, e2, _⟩ := e
      have e3 : Value.pointer (some ⟨p, 0, none⟩) = u := by simpa using e1
      subst e2 e3
      exact hbx1
  case done =>
    rintro D W hD hb ⟨v, hv, hrow, _⟩ hK
    have hc := hv.cell
    gi_wp2
    refine ret_marks hK rfl (v := v) ?_ ⟨v, rfl, ownsRow_putObj hrow _ hK rfl, hb.putObj _ (by simp at hD; omega) hK⟩
    exact results_tmp (fn := Try.f79) rfl _ _ _
  case stop =>
    rintro D c pre W hD hpre hb h hK
    exact h.elim

set_option maxRecDepth 100000 in
set_option maxHeartbeats 1000000 in
theorem allNil_stops (B n₀ : Nat) (w : World) (hB : Boxed w B 97 (.pointer none)) :
    SeqStopsK Fence.wide 8 Try.prog 81 #[.pointer (some ⟨B, 0, none⟩)] (fun x : Int => #[Value.int .i64 x]) (KeepB n₀ B) (fun ys => ys = []) (fun pre => pre <+: []) ([] : List Int).length w := by
  intro l J Jx W hW hJ _ hY h0
  have hBW : Boxed W B 97 (.pointer none) := (hW.block B hB.lt).trans hB
  have hBc := hBW.cell
  refine callsIn_of_wp Try.func81 rfl trivial ?_ rfl
  simp only [Try.ntmps81, List.size_toArray, List.length_cons, List.length_nil, Nat.reduceAdd, Nat.reduceSub, Array.replicate_succ, Array.replicate_zero, List.push_toArray, List.append_toArray, List.nil_append, List.cons_append]
  gi_wp2_with (refine ⟨trivial, ?_⟩; gi_at_call 60; refine (callsIn_wide.2 (len_nil _)).mono ?_; rintro e w' ⟨rfl, rfl⟩)
  gi_loopw [6] (fun i wr => i = .int .i64 0 ∧ J [] wr) (fun i _ => 0)
  case atStart => exact ⟨rfl, h0⟩
  case round =>
    obtain ⟨rfl, hJs⟩ := hrel
    gi_wp2
    go_end0
    exact ⟨⟨_, rfl⟩, .inl ⟨[], rfl, hJs⟩⟩
set_option maxRecDepth 100000 in
set_option maxHeartbeats 2000000 in
theorem list_nil (w : World) :
    Calls Try.prog 79 #[.pointer none] w fun e w' => e = .returned (.slice none 0 0) ∧ Keeps w w' := by
  refine (callsIn_wide (n := 9)).1 ?_
  refine callsIn_of_wp_marks Try.func79 rfl trivial ?_ rfl
  simp only [Try.ntmps79, List.size_toArray, List.length_cons, List.length_nil, Nat.reduceAdd, Nat.reduceSub, Array.replicate_succ, Array.replicate_zero, List.push_toArray, List.append_toArray, List.nil_append, List.cons_append]
  gi_wp2_with (refine ⟨trivial, ?_⟩; gi_at_call 80; refine (callsIn_wide.2 (all_any _ ⟨_, rfl⟩ _)).mono ?_; rintro e w' ⟨rfl, rfl⟩)
  have bO := Boxed.new w 22 (.slice none 0 0)
  have bM := Boxed.new (w.alloc (.cells #[.slice none 0 0] 22)) 97 (.pointer none)
  rw [World.size_alloc] at bM
  have hB0 : Below w.heap.size w ((w.alloc (.cells #[.slice none 0 0] 22)).alloc (.cells #[.pointer none] 97)) := ((Below.refl _ w).alloc (Nat.le_refl _) _).alloc (by simp) _
  refine iter_ruleB w (w.heap.size + 1) (gf := 81) (lb := #[.pointer (some ⟨w.heap.size + 1, 0, none⟩)]) rfl (enters_of Try.func81 (by kernel_rfl) rfl)
    (allNil_stops (w.heap.size + 1) w.heap.size _ bM) (Below.refl _ _) hB0 (fun _ => rfl)
    (fun pre W => Boxed W w.heap.size 22 (.slice none 0 0))
    (fun c pre W => False)
    (fun pre => Stays.boxed _ _ _ _)
    (fun c pre => Stays.pure _ _)
    (bO.alloc _)
    ?a1 ?assign ?body ?done ?stop
  case assign =>
    intro l x W K hK
    gi_wp2
    exact hK
  case body =>
    rintro l pre x W hb hlt _
    exact absurd hlt (Nat.not_lt_zero _)
  case done =>
    rintro D W hD hb hv hK
    have hc := hv.cell
    gi_wp2
    refine ret_marks hK rfl (v := .slice none 0 0) ?_ ⟨rfl, hb.putObj _ (by simp at hD; omega) hK⟩
    exact results_tmp (fn := Try.f79) rfl _ _ _
  case stop =>
    rintro D c pre W hD hpre hb h hK
    exact h.elim
end Go.Proofs.Ytcggbfpangnllaa.i64
