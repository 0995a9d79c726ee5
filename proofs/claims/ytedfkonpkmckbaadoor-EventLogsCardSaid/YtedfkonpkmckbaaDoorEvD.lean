/- The walks of events' texts: the document's Text, To, known. -/
import Derived.Test.YtedfkonpkmckbaaDoorEvC
namespace Go.Proofs.YtedfkonpkmckbaaDoor
open Go.RowKit Go.Lib

theorem str_toList (l : List UInt8) : (str l).toList = l := by
  rw [ByteArray.toList_eq]; simp [str]
set_option maxRecDepth 100000 in
set_option maxHeartbeats 2000000 in
theorem rtext_any (e : EvS) (he : e.Ok) (w : World) : Calls Tryd.prog 13 #[rvV e] w fun r w' => r = .returned (.string (str (textB e))) ∧ Keeps w w' := by
  have hta := fun h => textB_app (e := e) h
  obtain ⟨t, k, a, b, n⟩ := e
  have f1 := digits_any t he.t64
  have f2 := rword_any k
  have f3 := number_any a he.a0 he.a1
  have f4 := number_any b he.b0 he.b1
  have f5 := digits_any n he.n64
  have z1 : (str (decDigits t)).size ≤ 20 := by rw [str_size]; exact digits_len he.t64
  have z2 : (str (wordB k)).size ≤ 6 := by rw [str_size]; exact wordB_len k
  have z3 : (str (itoa a)).size ≤ 21 := by rw [str_size]; exact itoa_length_le a he.a0 he.a1
  have z4 : (str (itoa b)).size ≤ 21 := by rw [str_size]; exact itoa_length_le b he.b0 he.b1
  have z5 : (str (decDigits n)).size ≤ 20 := by rw [str_size]; exact digits_len he.n64
  have hB := Blk.new w 24 [.int .u64 (t : Int), .int .i64 k, .int .i64 a, .int .i64 b, .int .u64 (n : Int)]
  have hK := Keeps.alloc w (.cells [Value.int .u64 (t : Int), .int .i64 k, .int .i64 a, .int .i64 b, .int .u64 (n : Int)].toArray 24)
  obtain ⟨B, eB⟩ : ∃ B, B = w.heap.size := ⟨_, rfl⟩
  rw [← eB] at hB
  replace eB := Lib.hid eB
  replace hB := Lib.hid hB
  replace hK := Lib.hid hK
  have hem : (str (wordB k)).toList.isEmpty = !isKd k := by
    rw [str_toList]
    cases hk : isKd k with
    | false => rw [(wordB_empty k).2 hk]; rfl
    | true =>
      cases hw : wordB k with
      | nil => rw [(wordB_empty k).1 hw] at hk; cases hk
      | cons _ _ => rfl
  simp only at hta
  cases hk : isKd k with
  | false =>
    rw [hk] at hem
    have hr0 : textB ⟨t, k, a, b, n⟩ = [] := by unfold textB; rw [hk]; rfl
    rw [hr0]
    have hK0 : str [] = ⟨#[]⟩ := rfl
    rw [hK0]
    generalize str (wordB k) = s2 at *
    replace f2 := Lib.hid f2
    clear hK0 he hta hr0 f1 f3 f4 f5 z1 z2 z3 z4 z5
    go_enter Tryd.func13, Tryd.ntmps13
    go_upto_region 1 with (fail)
    rw [← eB.out]
    refine wp_gen (fun W => Blk W B 24 [.int .u64 (t : Int), .int .i64 k, .int .i64 a, .int .i64 b, .int .u64 (n : Int)] ∧ Keeps w W) ⟨hB.out, hK.out⟩ ?_
    clear hB hK eB
    rintro W ⟨hB, hK⟩
    have q1 := hB.cell 1 (by simp)
    simp only [List.getElem_cons_zero, List.getElem_cons_succ] at q1
    replace hK := Lib.hid hK
    clear hB
    go_wp2_with fail
    with_reducible refine (f2.out _).mono ?_
    rintro e w1 ⟨rfl, hK2⟩
    replace hK2 := Lib.hid hK2
    go_wp2_with fail
    go_ret
    exact ⟨rfl, Keeps.trans hK.out hK2.out⟩
  | true =>
    rw [hk] at hem
    have hta1 := hta hk
    rw [← hta1]
    generalize str (decDigits t) = s1 at *
    generalize str (wordB k) = s2 at *
    generalize str (itoa a) = s3 at *
    generalize str (itoa b) = s4 at *
    generalize str (decDigits n) = s5 at *
    replace f1 := Lib.hid f1
    replace f2 := Lib.hid f2
    replace f3 := Lib.hid f3
    replace f4 := Lib.hid f4
    replace f5 := Lib.hid f5
    clear he hta hta1
    go_enter Tryd.func13, Tryd.ntmps13
    go_upto_region 1 with (fail)
    rw [← eB.out]
    refine wp_gen (fun W => Blk W B 24 [.int .u64 (t : Int), .int .i64 k, .int .i64 a, .int .i64 b, .int .u64 (n : Int)] ∧ Keeps w W) ⟨hB.out, hK.out⟩ ?_
    clear hB hK eB
    rintro W ⟨hB, hK⟩
    have q1 := hB.cell 1 (by simp)
    simp only [List.getElem_cons_zero, List.getElem_cons_succ] at q1
    replace hK := Lib.hid hK
    replace hB := Lib.hid hB
    go_wp2_with fail
    with_reducible refine (f2.out _).mono ?_
    rintro e w1 ⟨rfl, hK2⟩
    have hBw := hB.out.keeps hK2
    have hKw := Keeps.trans hK.out hK2
    clear q1 hB hK hK2
    replace hKw := Lib.hid hKw
    go_upto_region 3 with (fail)
    have q0 := hBw.cell 0 (by simp)
    have q1 := hBw.cell 1 (by simp)
    have q2 := hBw.cell 2 (by simp)
    have q3 := hBw.cell 3 (by simp)
    have q4 := hBw.cell 4 (by simp)
    simp only [List.getElem_cons_zero, List.getElem_cons_succ] at q0 q1 q2 q3 q4
    have p0 := After.cell q0
    have p1 := After.cell q1
    have p2 := After.cell q2
    have p3 := After.cell q3
    have p4 := After.cell q4
    have g1 := Lib.hid fun y : After w1 => y.call (f1.out y.now)
    have g2 := Lib.hid fun y : After w1 => y.call (f2.out y.now)
    have g3 := Lib.hid fun y : After w1 => y.call (f3.out y.now)
    have g4 := Lib.hid fun y : After w1 => y.call (f4.out y.now)
    have g5 := Lib.hid fun y : After w1 => y.call (f5.out y.now)
    clear q0 q1 q2 q3 q4 hBw hem
    refine region_after (by kernel_rfl) (by kernel_rfl) ?_
    repeat go_big_quiet_step (first | (with_reducible exact g1.out _) | (with_reducible exact g2.out _) | (with_reducible exact g3.out _) | (with_reducible exact g4.out _) | (with_reducible exact g5.out _))
    refine wpQuiet_nil ?_
    rintro W3 ⟨⟨X3, hK3⟩, hX3⟩
    replace hX3 := show W3 = X3 from hX3
    subst hX3
    replace hK3 := Lib.hid hK3
    go_wp2_with fail
    go_ret
    exact ⟨rfl, Keeps.trans hKw.out hK3.out⟩
theorem zeroEv (w : World) : (zeroValue 28).run Tryd.prog w = .ok (.agg #[.int .u64 0, .int .i64 0, .int .i64 0, .int .i64 0, .int .u64 0]) w := by kernel_rfl
theorem sizeEv : (Tryd.prog.info? 28).map (·.size) = some 5 := by kernel_rfl
set_option maxHeartbeats 1000000 in
theorem to_any (e : EvS) (w : World) : Calls Tryd.prog 12 #[rvV e] w fun r w' => r = .returned (evV e) ∧ Keeps w w' := by
  obtain ⟨t, k, a, b, n⟩ := e
  have hB := Blk.new w 24 [.int .u64 (t : Int), .int .i64 k, .int .i64 a, .int .i64 b, .int .u64 (n : Int)]
  have hK := Keeps.alloc w (.cells [Value.int .u64 (t : Int), .int .i64 k, .int .i64 a, .int .i64 b, .int .u64 (n : Int)].toArray 24)
  go_enter Tryd.func12, Tryd.ntmps12
  go_upto_region 1 with (fail)
  refine wp_gen (fun W => Blk W w.heap.size 24 [.int .u64 (t : Int), .int .i64 k, .int .i64 a, .int .i64 b, .int .u64 (n : Int)] ∧ Blk W (w.heap.size + 1) 28 [.int .u64 0, .int .i64 0, .int .i64 0, .int .i64 0, .int .u64 0] ∧ Keeps w W) ⟨hB.alloc _, Blk.at (by simp) rfl, Keeps.trans hK (Keeps.alloc _ _)⟩ ?_
  rintro W ⟨h0, h1, hK2⟩
  have hne : w.heap.size + 1 ≠ w.heap.size := by omega
  have q0 := h0.cell 0 (by simp)
  have q1 := h0.cell 1 (by simp)
  have q2 := h0.cell 2 (by simp)
  have q3 := h0.cell 3 (by simp)
  have q4 := h0.cell 4 (by simp)
  simp only [List.getElem_cons_zero, List.getElem_cons_succ] at q0 q1 q2 q3 q4
  have hS : Blk (W.setRow (w.heap.size + 1) [Value.int .u64 (t : Int), .int .i64 k, .int .i64 a, .int .i64 b, .int .u64 (n : Int)].toArray) (w.heap.size + 1) 28 [.int .u64 (t : Int), .int .i64 k, .int .i64 a, .int .i64 b, .int .u64 (n : Int)] := h1.setRow _
  have hKS := Chg.keeps (Chg.setRow (S := (· = w.heap.size + 1)) (w := W) [Value.int .u64 (t : Int), .int .i64 k, .int .i64 a, .int .i64 b, .int .u64 (n : Int)].toArray rfl) hK2 (fun x hx e => by omega)
  clear hB hK h0
  replace h1 := Lib.hid h1
  replace hK2 := Lib.hid hK2
  replace hKS := Lib.hid hKS
  replace hS := Lib.hid hS
  go_wp2_with (first
    | (refine storeRow h1.out [.int .u64 (t : Int), .int .i64 k, .int .i64 a, .int .i64 b, .int .u64 (n : Int)] rfl _ _ _ rfl rfl rfl rfl 5 sizeEv rfl rfl (by intro c hc; simp at hc; rcases hc with rfl | rfl | rfl | rfl | rfl <;> rfl) ?_))
  (try simp only [Exit.inBlock, Exit.then])
  refine bodyPost_ret (results_row (t := 28) (cs := [Value.int .u64 (t : Int), .int .i64 k, .int .i64 a, .int .i64 b, .int .u64 (n : Int)]) rfl _ hS.out rfl _ Tryd.underlying28 rfl 5 sizeEv rfl) rfl ?_
  exact ⟨rfl, hKS.out⟩
theorem known_text : textB ⟨12, 4, 3, -1, 77⟩ = [49, 50, 32, 101, 110, 100, 32, 51, 32, 45, 49, 32, 55, 55] := by
  have h12 : decDigits 12 = [49, 50] := by rw [decDigits_two (by decide) (by decide)]; rfl
  have h3 : itoa 3 = [51] := by rw [show (3 : Int) = ((3 : Nat) : Int) from rfl, itoa_nonneg, decDigits_one (by decide)]; rfl
  have h1 : itoa (-1) = [45, 49] := by rw [show (-1 : Int) = -((1 : Nat) : Int) from rfl, itoa_neg 1 (by decide), decDigits_one (by decide)]; rfl
  have h77 : decDigits 77 = [55, 55] := by rw [decDigits_two (by decide) (by decide)]; rfl
  unfold textB parts
  simp only [h12, h3, h1, h77]
  rfl
set_option maxHeartbeats 1000000 in
theorem known28_any (w : World) (hT : Tabs w) : Calls Tryd.prog 10 #[] w fun e w' => e = .returned (.bool true) ∧ Keeps w w' := by
  have ht := text_any ⟨12, 4, 3, -1, 77⟩ ⟨by decide, by decide, by decide, by decide, by decide, by decide⟩ w hT
  rw [known_text] at ht
  have hs : str [49, 50, 32, 101, 110, 100, 32, 51, 32, 45, 49, 32, 55, 55] = ⟨#[49, 50, 32, 101, 110, 100, 32, 51, 32, 45, 49, 32, 55, 55]⟩ := rfl
  rw [hs] at ht
  change Calls Tryd.prog 11 #[.agg #[.int .u64 12, .int .i64 4, .int .i64 3, .int .i64 (-1), .int .u64 77]] w _ at ht
  replace ht := Lib.hid ht
  clear hT hs
  go_enter Tryd.func10, Tryd.ntmps10
  go_wp2_with fail
  with_reducible refine ht.out.mono ?_
  rintro e w1 ⟨rfl, hK⟩
  replace hK := Lib.hid hK
  go_wp2_with fail
  go_ret
  exact ⟨rfl, hK.out⟩
end Go.Proofs.YtedfkonpkmckbaaDoor
