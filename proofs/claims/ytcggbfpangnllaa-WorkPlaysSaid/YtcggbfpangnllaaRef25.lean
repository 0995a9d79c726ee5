/- The document's pend, plain lists of things; find, without, Where, In, Of, Queue. -/
import Derived.Test.YtcggbfpangnllaaStr2
import Derived.Test.YtcggbfpangnllaaRingJ
import Derived.Test.YtcggbfpangnllaaIterG
namespace Go.Proofs.Ytcggbfpangnllaa
open Go.RowKit

/-- A thing: its id, and where it is. -/
abbrev Th : Type := Int × Int
def thE (x : Th) : List Value := [.int .i64 x.1, .int .i64 x.2]
/-- A list of things lies behind the slice v. -/
def Ths (w : World) (v : Value) (l : List Th) : Prop := SlcS 2 w v (l.map thE)
theorem Ths.keeps {w w' : World} {v : Value} {l : List Th} (h : Ths w v l) (hk : Keeps w w') : Ths w' v l := SlcS.below h hk
theorem Ths.get {w : World} {v : Value} {l : List Th} (h : Ths w v l) : ∃ p cap, v = .slice p l.length cap ∧ l.length ≤ cap ∧ cap ≤ 9223372036854775807 ∧
    ∀ i, (hi : i < l.length) → ∃ b off, p = some ⟨b, off, none⟩ ∧ w.cell? ⟨b, off + i * 2, none⟩ = some (.int .i64 l[i].1) ∧ w.cell? ⟨b, off + i * 2 + 1, none⟩ = some (.int .i64 l[i].2) := by
  obtain ⟨p, cap, hv, hl, hc, hcell⟩ := SlcS.get h
  rw [List.length_map] at hv hl hcell
  refine ⟨p, cap, hv, hl, hc, fun i hi => ?_⟩
  obtain ⟨b, off, hp, hk⟩ := hcell i hi
  have h0 := hk 0 (by omega)
  have h1 := hk 1 (by omega)
  refine ⟨b, off, hp, ?_, ?_⟩
  · rw [Nat.add_zero] at h0; rw [h0]; simp [List.getD, hi, thE]
  · rw [h1]; simp [List.getD, hi, thE]
/-- The cells of place i. -/
theorem Ths.at {w : World} {p : Option Addr} {n cap : Nat} {l : List Th} (h : Ths w (.slice p n cap) l) (i : Nat) (hi : i < l.length) : ∃ b off, p = some ⟨b, off, none⟩ ∧ w.cell? ⟨b, off + i * 2, none⟩ = some (.int .i64 l[i].1) ∧ w.cell? ⟨b, off + i * 2 + 1, none⟩ = some (.int .i64 l[i].2) := by
  obtain ⟨q, c, hv, _, _, hc⟩ := h.get
  simp only [Value.slice.injEq] at hv
  rw [hv.1]
  exact hc i hi
def fndAt : List Th → Int → Nat → Int
  | [], _, _ => -1
  | x :: l, id, k => if x.1 = id then (k : Int) else fndAt l id (k + 1)
/-- Where a thing stands. -/
def fnd (l : List Th) (id : Int) : Int := fndAt l id 0
theorem fndAt_cases : ∀ (l : List Th) (id : Int) (k : Nat), (fndAt l id k = -1 ∧ l.find? (·.1 == id) = none) ∨ ∃ j, ∃ h : j < l.length, fndAt l id k = ((k + j : Nat) : Int) ∧ l.find? (·.1 == id) = some l[j] ∧ l.take j ++ l.drop (j + 1) = l.eraseP (·.1 == id)
  | [], _, _ => .inl ⟨rfl, rfl⟩
  | x :: l, id, k => by
    unfold fndAt
    by_cases e : x.1 = id
    · have e1 : (x.1 == id) = true := by simpa using e
      exact .inr ⟨0, by simp, by rw [if_pos e]; rfl, by rw [List.find?_cons, e1]; rfl, by rw [List.eraseP_cons, e1]; rfl⟩
    · have e1 : (x.1 == id) = false := by simpa using e
      rw [if_neg e, List.find?_cons, List.eraseP_cons, e1]
      rcases fndAt_cases l id (k + 1) with ⟨h1, h2⟩ | ⟨j, h, h1, h2, h3⟩
      · exact .inl ⟨h1, h2⟩
      · refine .inr ⟨j + 1, by simpa using h, by rw [h1]; congr 1; omega, by simpa using h2, ?_⟩
        rw [List.take_succ_cons, List.drop_succ_cons, List.cons_append, h3]
        rfl
theorem fnd_cases (l : List Th) (id : Int) : (fnd l id = -1 ∧ l.find? (·.1 == id) = none) ∨ ∃ j, ∃ h : j < l.length, fnd l id = (j : Int) ∧ l.find? (·.1 == id) = some l[j] ∧ l.take j ++ l.drop (j + 1) = l.eraseP (·.1 == id) := by
  rcases fndAt_cases l id 0 with h | ⟨j, h, h1, h2⟩
  · exact .inl h
  · exact .inr ⟨j, h, by rw [Nat.zero_add] at h1; exact h1, h2⟩
/-- Where a thing is; what is at a place; the things at a place. -/
def lkI (l : List Th) (id : Int) : Int := ((l.find? (·.1 == id)).map (·.2)).getD 0
def lkIB (l : List Th) (id : Int) : Bool := (l.find? (·.1 == id)).isSome
def lkO (l : List Th) (c : Int) : Int := ((l.find? (·.2 == c)).map (·.1)).getD 0
def lkOB (l : List Th) (c : Int) : Bool := (l.find? (·.2 == c)).isSome
def quL (l : List Th) (c : Int) : List Int := (l.filter (·.2 == c)).map (·.1)
theorem quL_succ (l : List Th) (c : Int) (j : Nat) (h : j < l.length) : quL (l.take (j + 1)) c = quL (l.take j) c ++ if l[j].2 = c then [l[j].1] else [] := by
  unfold quL
  rw [List.take_succ_eq_append_getElem h, List.filter_append, List.map_append]
  by_cases e : l[j].2 = c <;> simp [e]
theorem quL_le (l : List Th) (c : Int) : (quL l c).length ≤ l.length := by
  unfold quL
  rw [List.length_map]; exact List.length_filter_le _ _
/-- The document's pend as a value. -/
def pd (n : Nat) (vq vr : Value) : Value := .agg #[.int .i64 (n : Int), vq, vr]
def pdC (n : Nat) (vq vr : Value) : List Value := [.int .i64 (n : Int), vq, vr]
section
variable {w : World} {n : Nat} {v vq vr : Value} {l Q R : List Th}
set_option maxRecDepth 100000 in
set_option maxHeartbeats 400000 in
theorem rfind_any (h : Ths w v l) (id : Int) : Calls Try.prog 53 #[v, .int .i64 id] w fun e w' => e = .returned (.int .i64 (fnd l id)) ∧ w = w' := by
  obtain ⟨p, cap, rfl, hl, hc, _⟩ := h.get
  have hlI : (0 : Int) ≤ (l.length : Int) := by omega
  have hat := fun i hi => h.at i hi
  replace hat := Lib.hid hat
  clear h
  go_enter Try.func53, Try.ntmps53
  go_wp2_with fail
  go_loop [5] (fun i => ∃ k : Nat, k ≤ l.length ∧ i = .int .i64 (k : Int) ∧ fnd l id = fndAt (l.drop k) id k) (fun i => l.length - (intOf i).toNat)
  case atStart => exact ⟨0, Nat.zero_le _, rfl, rfl⟩
  case round =>
    obtain ⟨k, hk, rfl, hf⟩ := hrel
    by_cases hlt : k < l.length
    · obtain ⟨b, off, rfl, y0, y1⟩ := hat.out k hlt
      have hltI := Int.ofNat_lt.2 hlt
      rw [List.drop_eq_getElem_cons hlt] at hf
      unfold fndAt at hf
      generalize l[k].1 = x at *
      clear y1
      by_cases e : x = id
      · have e1 : (x == id) = true := by simpa using e
        rw [if_pos e] at hf
        replace hf := Lib.hid hf
        replace e := Lib.hid e
        go_wp2_with fail
        go_ret
        exact ⟨by rw [hf.out]; rfl, rfl⟩
      · have e1 : (x == id) = false := by simpa using e
        rw [if_neg e] at hf
        replace hf := Lib.hid hf
        replace e := Lib.hid e
        go_wp2_with fail
        go_round
        case rel => exact ⟨k + 1, by omega, by go_num, hf.out⟩
        case measure => (simp [intOf]; try omega)
    · obtain rfl : k = l.length := by omega
      rw [List.drop_length] at hf
      replace hf := Lib.hid hf
      go_wp2_with fail
      go_ret
      exact ⟨by rw [hf.out]; rfl, rfl⟩
theorem infoTh : (Try.prog.info? 91).map (fun i => (i.zero, i.size, i.bytes)) = some (some (.agg #[.int .i64 0, .int .i64 0]), 2, 16) := by kernel_rfl
theorem th_one (l : List Th) : ∀ el ∈ l.map thE, ∀ y ∈ el, y.oneCell' = true := by
  intro el hel y hy
  obtain ⟨s, _, rfl⟩ := List.mem_map.1 hel
  simp only [thE, List.mem_cons, List.not_mem_nil, or_false] at hy
  rcases hy with rfl | rfl <;> rfl
/-- A list in a row of the call's own. -/
def RowT (base : Nat) (W : World) (v : Value) (l : List Th) : Prop := RowS 2 base 91 W v (l.map thE)
theorem RowT.ths {base : Nat} {W : World} {v : Value} {l : List Th} (h : RowT base W v l) : Ths W v l := RowS.slcs h
theorem RowT.any {base : Nat} {W : World} {v : Value} {l : List Th} (h : RowT base W v l) : ∃ q cap, v = .slice q l.length cap := by
  obtain ⟨q, cap, h⟩ := RowS.any h
  exact ⟨q, cap, by rw [List.length_map] at h; exact h⟩
set_option maxRecDepth 100000 in
set_option maxHeartbeats 1000000 in
theorem rwithout_any (h : Ths w v l) (k : Nat) (hk : k < l.length) (hll : l.length ≤ 100000) : Calls Try.prog 77 #[v, .int .i64 k] w fun e w' => ∃ u, e = .returned u ∧ RowT w.heap.size w' u (l.take k ++ l.drop (k + 1)) ∧ Keeps w w' := by
  obtain ⟨p, cap, rfl, hl, hc, hcell⟩ := h.get
  obtain ⟨c, off, rfl, _, _⟩ := hcell k hk
  obtain ⟨ad, had, hadb, hd⟩ := SlcS.dropAny h (k + 1) (by rw [List.length_map]; exact hk)
  have hB0 := Keeps.alloc w (.cells #[] 91)
  have hsrc := SlcS.take (Ths.keeps h hB0) k (by simp; omega)
  have hk1 : (k : Int) < (l.length : Int) := by omega
  have hk2 : (k : Int) ≤ (cap : Int) := by omega
  have hk0 : (0 : Int) ≤ (k : Int) := by omega
  replace h := Lib.hid h
  replace hd := Lib.hid hd
  replace hB0 := Lib.hid hB0
  replace hsrc := Lib.hid hsrc
  clear hcell
  go_enter Try.func77, Try.ntmps77
  go_wp2_with (at_builtin; refine appN rfl _ _ 52 91 _ 2 16 rfl Try.underlying52 infoTh rfl (by decide) w.heap.size _ [] rfl (RowS.empty 2 _ _ w (Nat.le_refl _)) _ _ rfl hsrc.out (mem_take (th_one l)) ?c1 ?c2 ?c3 ?_)
  case c1 => simp; unfold maxLen; omega
  case c2 => simp; omega
  case c3 => exact hB0.out.size
  intro v1 W3 hrow _ hbel
  replace hrow : RowS 2 w.heap.size 91 W3 v1 ((l.map thE).take k) := by simpa using hrow
  have hK3 : Keeps w W3 := Below.trans hB0.out hbel
  obtain ⟨q1, cap1, rfl⟩ := hrow.any
  have hsrc2 := SlcS.below hd.out hK3
  have hsz3 := hK3.size
  have hwr : IntKind.i64.wrap ((k : Int) + 1) = (k : Int) + 1 := IntWalk.i64_in _ (by omega)
  have htn : ((k : Int) + 1).toNat = k + 1 := by omega
  have hn0 : (0 : Int) ≤ (k : Int) + 1 := by omega
  have hn1 : ((k : Int) + 1) ≤ (l.length : Int) := by omega
  replace hsrc2 := Lib.hid hsrc2
  replace hrow := Lib.hid hrow
  replace hK3 := Lib.hid hK3
  clear hsrc hB0 hbel
  go_wp2_with (at_builtin; refine appN rfl _ _ 52 91 _ 2 16 rfl Try.underlying52 infoTh rfl (by decide) w.heap.size _ _ rfl hrow.out _ _ rfl hsrc2.out (mem_drop (th_one l)) ?d1 ?d2 ?d3 ?_)
  case d1 => simp; unfold maxLen; omega
  case d2 => simp; omega
  case d3 => omega
  intro v2 W4 hrow _ hbel
  have hrow4 : RowT w.heap.size W4 v2 (l.take k ++ l.drop (k + 1)) := by
    unfold RowT
    rw [List.map_append, List.map_take, List.map_drop]
    exact hrow
  have hK4 : Keeps w W4 := Below.trans hK3.out hbel
  replace hrow4 := Lib.hid hrow4
  replace hK4 := Lib.hid hK4
  clear hrow hbel hsrc2 had htn hwr
  go_wp2_with fail
  go_ret
  exact ⟨_, rfl, hrow4.out, hK4.out⟩
set_option maxRecDepth 100000 in
set_option maxHeartbeats 1000000 in
theorem rwhere_any (hq : Ths w vq Q) (id : Int) : Calls Try.prog 55 #[pd n vq vr, .int .i64 id] w fun e w' => e = .returned (.tuple #[.int .i64 (lkI Q id), .bool (lkIB Q id)]) ∧ Keeps w w' := by
  obtain ⟨p, cap, rfl, hl, hc, _⟩ := hq.get
  have hlI : (0 : Int) ≤ (Q.length : Int) := by omega
  have hcase := fnd_cases Q id
  replace hq := Lib.hid hq
  unfold pd
  go_enter Try.func55, Try.ntmps55
  go_upto_region 1 with (fail)
  obtain ⟨B, hB⟩ : ∃ B, B = w.heap.size := ⟨_, rfl⟩
  refine wp_gen (fun W => Blk W B 54 (pdC n (.slice p Q.length cap) vr) ∧ Keeps w W) ⟨by rw [hB]; exact Blk.new _ _ _, Keeps.alloc _ _⟩ ?_
  rw [← hB]
  clear hB
  rintro W ⟨hB, hK⟩
  have z1 := hB.cell 1 (by simp [pdC])
  simp only [pdC, List.getElem_cons_succ, List.getElem_cons_zero] at z1
  have hf := rfind_any (hq.out.keeps hK) id
  rcases hcase with ⟨h1, h2⟩ | ⟨j, hj, h1, h2, _⟩
  · have e1 : lkI Q id = 0 := by unfold lkI; rw [h2]; rfl
    have e2 : lkIB Q id = false := by unfold lkIB; rw [h2]; rfl
    rw [h1] at hf
    replace e1 := Lib.hid e1
    replace e2 := Lib.hid e2
    replace hf := Lib.hid hf
    replace hK := Lib.hid hK
    clear h1 h2 hB
    go_wp2_with fail
    refine hf.out.mono ?_
    rintro e W2 ⟨rfl, rfl⟩
    go_wp2_with fail
    go_ret2
    exact ⟨by (rw [e1.out, e2.out]; try rfl), hK.out⟩
  · have e1 : lkI Q id = Q[j].2 := by unfold lkI; rw [h2]; rfl
    have e2 : lkIB Q id = true := by unfold lkIB; rw [h2]; rfl
    obtain ⟨b, off, rfl, _, y1⟩ := (hq.out.keeps hK).at j hj
    rw [h1] at hf
    have hjI : (j : Int) < (Q.length : Int) := by omega
    have hj0 : ¬ (j : Int) < 0 := by omega
    have hj00 : (0 : Int) ≤ (j : Int) := by omega
    clear h1 h2 hB
    generalize Q[j].2 = y at *
    replace e1 := Lib.hid e1
    replace e2 := Lib.hid e2
    replace hf := Lib.hid hf
    replace hK := Lib.hid hK
    go_wp2_with fail
    refine hf.out.mono ?_
    rintro e W2 ⟨rfl, rfl⟩
    go_wp2_with fail
    go_ret2
    exact ⟨by (rw [e1.out, e2.out]; try rfl), hK.out⟩
set_option maxRecDepth 100000 in
set_option maxHeartbeats 1000000 in
theorem rin_any (hq : Ths w vr Q) (id : Int) : Calls Try.prog 24 #[pd n vq vr, .int .i64 id] w fun e w' => e = .returned (.tuple #[.int .i64 (lkI Q id), .bool (lkIB Q id)]) ∧ Keeps w w' := by
  obtain ⟨p, cap, rfl, hl, hc, _⟩ := hq.get
  have hlI : (0 : Int) ≤ (Q.length : Int) := by omega
  have hcase := fnd_cases Q id
  replace hq := Lib.hid hq
  unfold pd
  go_enter Try.func24, Try.ntmps24
  go_upto_region 1 with (fail)
  obtain ⟨B, hB⟩ : ∃ B, B = w.heap.size := ⟨_, rfl⟩
  refine wp_gen (fun W => Blk W B 54 (pdC n vq (.slice p Q.length cap)) ∧ Keeps w W) ⟨by rw [hB]; exact Blk.new _ _ _, Keeps.alloc _ _⟩ ?_
  rw [← hB]
  clear hB
  rintro W ⟨hB, hK⟩
  have z2 := hB.cell 2 (by simp [pdC])
  simp only [pdC, List.getElem_cons_succ, List.getElem_cons_zero] at z2
  have hf := rfind_any (hq.out.keeps hK) id
  rcases hcase with ⟨h1, h2⟩ | ⟨j, hj, h1, h2, _⟩
  · have e1 : lkI Q id = 0 := by unfold lkI; rw [h2]; rfl
    have e2 : lkIB Q id = false := by unfold lkIB; rw [h2]; rfl
    rw [h1] at hf
    replace e1 := Lib.hid e1
    replace e2 := Lib.hid e2
    replace hf := Lib.hid hf
    replace hK := Lib.hid hK
    clear h1 h2 hB
    go_wp2_with fail
    refine hf.out.mono ?_
    rintro e W2 ⟨rfl, rfl⟩
    go_wp2_with fail
    go_ret2
    exact ⟨by (rw [e1.out, e2.out]; try rfl), hK.out⟩
  · have e1 : lkI Q id = Q[j].2 := by unfold lkI; rw [h2]; rfl
    have e2 : lkIB Q id = true := by unfold lkIB; rw [h2]; rfl
    obtain ⟨b, off, rfl, _, y1⟩ := (hq.out.keeps hK).at j hj
    rw [h1] at hf
    have hjI : (j : Int) < (Q.length : Int) := by omega
    have hj0 : ¬ (j : Int) < 0 := by omega
    have hj00 : (0 : Int) ≤ (j : Int) := by omega
    clear h1 h2 hB
    generalize Q[j].2 = y at *
    replace e1 := Lib.hid e1
    replace e2 := Lib.hid e2
    replace hf := Lib.hid hf
    replace hK := Lib.hid hK
    go_wp2_with fail
    refine hf.out.mono ?_
    rintro e W2 ⟨rfl, rfl⟩
    go_wp2_with fail
    go_ret2
    exact ⟨by (rw [e1.out, e2.out]; try rfl), hK.out⟩
set_option maxRecDepth 100000 in
set_option maxHeartbeats 1000000 in
theorem rof_any (hr : Ths w vr R) (c : Int) : Calls Try.prog 70 #[pd n vq vr, .int .i64 c] w fun e w' => e = .returned (.tuple #[.int .i64 (lkO R c), .bool (lkOB R c)]) ∧ Keeps w w' := by
  obtain ⟨p, cap, rfl, hl, hc, _⟩ := hr.get
  have hlI : (0 : Int) ≤ (R.length : Int) := by omega
  replace hr := Lib.hid hr
  unfold pd
  go_enter Try.func70, Try.ntmps70
  go_upto_region 1 with (fail)
  obtain ⟨B, hB⟩ : ∃ B, B = w.heap.size := ⟨_, rfl⟩
  refine wp_gen (fun W => Blk W B 54 (pdC n vq (.slice p R.length cap)) ∧ Keeps w W) ⟨by rw [hB]; exact Blk.new _ _ _, Keeps.alloc _ _⟩ ?_
  rw [← hB]
  clear hB
  rintro W ⟨hB, hK⟩
  have z2 := hB.cell 2 (by simp [pdC])
  simp only [pdC, List.getElem_cons_succ, List.getElem_cons_zero] at z2
  have hat := fun i hi => (hr.out.keeps hK).at i hi
  replace hat := Lib.hid hat
  replace hK := Lib.hid hK
  clear hr hB
  go_wp2_with fail
  go_loop [6] (fun i => ∃ k : Nat, k ≤ R.length ∧ i = .int .i64 (k : Int) ∧ R.find? (·.2 == c) = (R.drop k).find? (·.2 == c)) (fun i => R.length - (intOf i).toNat)
  case atStart => exact ⟨0, Nat.zero_le _, rfl, rfl⟩
  case round =>
    obtain ⟨k, hk, rfl, hf⟩ := hrel
    by_cases hlt : k < R.length
    · obtain ⟨b, off, rfl, y0, y1⟩ := hat.out k hlt
      have hltI := Int.ofNat_lt.2 hlt
      rw [List.drop_eq_getElem_cons hlt, List.find?_cons] at hf
      generalize R[k] = x at *
      obtain ⟨x, y⟩ := x
      by_cases e : y = c
      · have e1 : (y == c) = true := by simpa using e
        rw [show ((x, y) : Th).2 = y from rfl, e1] at hf
        have e2 : lkO R c = x := by unfold lkO; rw [hf]; rfl
        have e3 : lkOB R c = true := by unfold lkOB; rw [hf]; rfl
        replace e := Lib.hid e
        replace e2 := Lib.hid e2
        replace e3 := Lib.hid e3
        clear hf
        go_wp2_with fail
        go_ret2
        exact ⟨by (rw [e2.out, e3.out]; try rfl), hK.out⟩
      · have e1 : (y == c) = false := by simpa using e
        rw [show ((x, y) : Th).2 = y from rfl, e1] at hf
        replace hf := Lib.hid hf
        replace e := Lib.hid e
        go_wp2_with fail
        go_round
        case rel => exact ⟨k + 1, by omega, by go_num, hf.out⟩
        case measure => (simp [intOf]; try omega)
    · obtain rfl : k = R.length := by omega
      rw [List.drop_length] at hf
      have e2 : lkO R c = 0 := by unfold lkO; rw [hf]; rfl
      have e3 : lkOB R c = false := by unfold lkOB; rw [hf]; rfl
      replace e2 := Lib.hid e2
      replace e3 := Lib.hid e3
      clear hf
      go_wp2_with fail
      go_ret2
      exact ⟨by (rw [e2.out, e3.out]; try rfl), hK.out⟩
theorem ownsRow_base_le {W : World} {base base' sz : Nat} {e : TypeId} {v : Value} {n : Nat} {xs : List Value} (h : W.ownsRow base e sz v n xs) (hb : base' ≤ base) : W.ownsRow base' e sz v n xs := by
  refine ⟨h.1, ?_⟩
  rcases h.2 with h0 | ⟨g, cap, cur, hv, hbg, hg, hr⟩
  · exact .inl h0
  · exact .inr ⟨g, cap, cur, hv, by omega, hg, hr⟩
theorem infoI25r : (Try.prog.info? 3).map (fun i => (i.zero, i.size, i.bytes)) = some (some (.int .i64 0), 1, 8) := by kernel_rfl
set_option maxRecDepth 100000 in
set_option maxHeartbeats 1000000 in
theorem rqueue_any (hq : Ths w vq Q) (c : Int) (hQ : Q.length ≤ 100000) : Calls Try.prog 74 #[pd n vq vr, .int .i64 c] w fun e w' => ∃ v, e = .returned v ∧ w'.ownsRow w.heap.size 3 1 v (quL Q c).length ((quL Q c).map (Value.int .i64)) ∧ Keeps w w' := by
  obtain ⟨p, cap, rfl, hl, hc, _⟩ := hq.get
  have hlI : (0 : Int) ≤ (Q.length : Int) := by omega
  replace hq := Lib.hid hq
  unfold pd
  go_enter Try.func74, Try.ntmps74
  go_upto_region 1 with (fail)
  obtain ⟨B, hB⟩ : ∃ B, B = w.heap.size := ⟨_, rfl⟩
  refine wp_gen (fun W => Blk W B 54 (pdC n (.slice p Q.length cap) vr) ∧ Keeps w W ∧ B < W.heap.size) ⟨by rw [hB]; exact Blk.new _ _ _, Keeps.alloc _ _, by rw [hB]; simp⟩ ?_
  have hBw : w.heap.size ≤ B := by omega
  rw [← hB]
  clear hB
  rintro W ⟨hB, hK, hBW⟩
  replace hB := Lib.hid hB
  replace hK := Lib.hid hK
  go_wp2_with fail
  go_loopw [5, 6] (fun o i wr => ∃ k : Nat, k ≤ Q.length ∧ i = .int .i64 (k : Int) ∧ Below W.heap.size W wr ∧ wr.ownsRow W.heap.size 3 1 o (quL (Q.take k) c).length ((quL (Q.take k) c).map (Value.int .i64))) (fun _ i _ => Q.length - (intOf i).toNat)
  case atStart => exact ⟨0, Nat.zero_le _, rfl, Below.refl _ _, World.ownsRow_nil _ _ _ _⟩
  case round =>
    obtain ⟨k, hk, rfl, hbe, hrow⟩ := hrel
    have hB2 := hB.out.below hbe hBW
    have z1 := hB2.cell 1 (by simp [pdC])
    simp only [pdC, List.getElem_cons_succ, List.getElem_cons_zero] at z1
    by_cases hlt : k < Q.length
    · obtain ⟨b, off, rfl, y0, y1⟩ := ((hq.out.keeps hK.out).keeps hbe).at k hlt
      have hltI := Int.ofNat_lt.2 hlt
      have hs := quL_succ Q c k hlt
      have hle := quL_le (Q.take k) c
      rw [List.length_take] at hle
      generalize Q[k] = x at *
      obtain ⟨x, y⟩ := x
      dsimp only at y0 y1 hs
      generalize quL (Q.take k) c = L at *
      by_cases e : y = c
      · have e1 : (y == c) = true := by simpa using e
        rw [if_pos e] at hs
        have hsz := hbe.size
        replace e := Lib.hid e
        replace hs := Lib.hid hs
        replace hbe := Lib.hid hbe
        clear hB2
        go_wp2_with (at_builtin; refine app1 rfl _ _ 22 3 (.int .i64 0) 8 rfl Try.underlying22 infoI25r rfl W.heap.size _ _ _ rfl hrow _ rfl rfl (by unfold maxLen; omega) (by omega) hsz ?_)
        intro g cap4 w3 hown _ hbel
        have hbe3 := Below.trans hbe.out hbel
        have hrow3 : w3.ownsRow W.heap.size 3 1 (.slice (some ⟨g, 0, none⟩) (L.length + 1) cap4) (quL (Q.take (k + 1)) c).length ((quL (Q.take (k + 1)) c).map (Value.int .i64)) := by
          rw [hs.out, List.length_append, List.length_singleton, List.map_append]; exact hown
        replace hbe3 := Lib.hid hbe3
        replace hrow3 := Lib.hid hrow3
        clear hown hbel hrow
        go_wp2_with fail
        go_roundw
        case rel => exact ⟨k + 1, by omega, by go_num, hbe3.out, hrow3.out⟩
        case measure => (simp [intOf]; try omega)
      · have e1 : (y == c) = false := by simpa using e
        rw [if_neg e, List.append_nil] at hs
        replace e := Lib.hid e
        replace hs := Lib.hid hs
        replace hbe := Lib.hid hbe
        replace hrow := Lib.hid hrow
        clear hB2
        go_wp2_with fail
        go_roundw
        case rel => exact ⟨k + 1, by omega, by go_num, hbe.out, by rw [hs.out]; exact hrow.out⟩
        case measure => (simp [intOf]; try omega)
    · obtain rfl : k = Q.length := by omega
      rw [List.take_length] at hrow
      replace hrow := Lib.hid hrow
      replace hbe := Lib.hid hbe
      have hwW := hK.out.size
      clear hB2
      go_wp2_with fail
      go_ret
      exact ⟨_, rfl, ownsRow_base_le hrow.out hwW, Keeps.trans hK.out hbe.out⟩
end
end Go.Proofs.Ytcggbfpangnllaa
