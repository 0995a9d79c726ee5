/- The walks of events' texts: Text, and the document's Word. -/
import Derived.Test.YtedfkonpkmckbaaDoorEvA
import Derived.BigQuiet
namespace Go.Proofs.YtedfkonpkmckbaaDoor
open Go.RowKit Go.Lib

abbrev evV (e : EvS) : Value := .agg #[.int .u64 (e.t : Int), .int .i64 e.k, .int .i64 e.a, .int .i64 e.b, .int .u64 (e.n : Int)]
theorem join_any (bk : Nat) (xs : List (List UInt8)) (w : World) (hB : Blk w bk 9 (xs.map fun l => .string (str l))) (hn : xs.length ≤ 1000) (hl : (join xs [32]).length ≤ 140737488355328) :
    Calls Tryd.prog 27 #[.slice (some ⟨bk, 0, none⟩) xs.length xs.length, .string (str [32])] w fun e w' => e = .returned (.string (str (join xs [32]))) ∧ Keeps w w' := by
  have h := Tryd.strings_Join bk 0 xs.length (xs.map str) (str [32]) w (fun j x hx => by
    obtain ⟨hj, rfl⟩ := List.getElem?_eq_some_iff.1 hx
    rw [Nat.zero_add, hB.cellD j (by simpa using hj)]
    simp only [List.length_map] at hj
    simp [List.getD, hj]) hB.lt (by rw [List.length_map]; omega) (by rw [List.length_map]; exact Nat.le_refl _) (by
      rw [List.map_map]
      have e : (fun x : ByteArray => x.data.toList) ∘ str = id := by funext l; simp [str]
      rw [e, List.map_id]
      simpa [str] using hl)
  rw [List.length_map, List.map_map] at h
  have e : (fun x : ByteArray => x.data.toList) ∘ str = id := by funext l; simp [str]
  rw [e, List.map_id] at h
  refine h.mono ?_
  rintro e w' ⟨rfl, hb⟩
  refine ⟨?_, hb⟩
  simp [str]
set_option maxRecDepth 100000 in
set_option maxHeartbeats 2000000 in
theorem text_any (e : EvS) (he : e.Ok) (w : World) (hT : Tabs w) : Calls Tryd.prog 11 #[evV e] w fun r w' => r = .returned (.string (str (textB e))) ∧ Keeps w w' := by
  obtain ⟨t, k, a, b, n⟩ := e
  have hr := fun (W : World) => right_any (t : Int) (n : Int) k a b W
  obtain ⟨r, hrr⟩ : ∃ r, r = textB ⟨t, k, a, b, n⟩ := ⟨_, rfl⟩
  rw [← hrr]
  unfold textB at hrr
  have hB := Blk.new w 28 [.int .u64 (t : Int), .int .i64 k, .int .i64 a, .int .i64 b, .int .u64 (n : Int)]
  have hK := Keeps.alloc w (.cells [Value.int .u64 (t : Int), .int .i64 k, .int .i64 a, .int .i64 b, .int .u64 (n : Int)].toArray 28)
  obtain ⟨B, eB⟩ : ∃ B, B = w.heap.size := ⟨_, rfl⟩
  rw [← eB] at hB
  replace eB := Lib.hid eB
  replace hB := Lib.hid hB
  replace hK := Lib.hid hK
  cases hk : isKd k with
  | false =>
    rw [hk, if_neg (by decide)] at hrr
    rw [hk] at hr
    subst hrr
    have hK0 : str [] = ⟨#[]⟩ := rfl
    rw [hK0]
    replace hr := Lib.hid hr
    clear hT hK0 he
    go_enter Tryd.func11, Tryd.ntmps11
    go_wp2_with fail
    with_reducible refine (hr.out _).mono ?_
    rintro e w1 ⟨rfl, hK2⟩
    replace hK2 := Lib.hid hK2
    go_wp2_with fail
    go_ret
    exact ⟨rfl, Keeps.trans hK.out hK2.out⟩
  | true =>
    rw [hk, if_pos rfl] at hrr
    rw [hk] at hr
    have hlen := textB_len he
    have hT1 := fun (W : World) (h : Keeps w W) => hT.keeps h
    have f1 := fun (W : World) (h : Keeps w W) => fmtu_any t he.t64 W (hT.keeps h)
    have f2 := fun (W : World) (h : Keeps w W) => word_any k W (hT.keeps h)
    have f3 := fun (W : World) (h : Keeps w W) => itoa_any a he.a0 he.a1 W (hT.keeps h)
    have f4 := fun (W : World) (h : Keeps w W) => itoa_any b he.b0 he.b1 W (hT.keeps h)
    have f5 := fun (W : World) (h : Keeps w W) => fmtu_any n he.n64 W (hT.keeps h)
    have hj := fun (W : World) (bk : Nat) hb => join_any bk (parts ⟨t, k, a, b, n⟩) W hb (show 5 ≤ 1000 by decide) (by omega)
    rw [← hrr] at hj
    rw [show (parts ⟨t, k, a, b, n⟩).map (fun l => Value.string (str l)) = [.string (str (decDigits t)), .string (str (wordB k)), .string (str (itoa a)), .string (str (itoa b)), .string (str (decDigits n))] from rfl, show (parts ⟨t, k, a, b, n⟩).length = 5 from rfl] at hj
    change ∀ (W : World), Keeps w W → Calls Tryd.prog 25 #[.int .u64 t, .int .i64 10] W fun e w' => e = .returned (.string (str (decDigits t))) ∧ Keeps W w' at f1
    change ∀ (W : World), Keeps w W → Calls Tryd.prog 26 #[.int .i64 a] W fun e w' => e = .returned (.string (str (itoa a))) ∧ Keeps W w' at f3
    change ∀ (W : World), Keeps w W → Calls Tryd.prog 26 #[.int .i64 b] W fun e w' => e = .returned (.string (str (itoa b))) ∧ Keeps W w' at f4
    change ∀ (W : World), Keeps w W → Calls Tryd.prog 25 #[.int .u64 n, .int .i64 10] W fun e w' => e = .returned (.string (str (decDigits n))) ∧ Keeps W w' at f5
    have hsep : str [32] = ⟨#[32]⟩ := rfl
    rw [hsep] at hj
    generalize str (decDigits t) = s1 at *
    generalize str (wordB k) = s2 at *
    generalize str (itoa a) = s3 at *
    generalize str (itoa b) = s4 at *
    generalize str (decDigits n) = s5 at *
    generalize str r = sr at *
    replace hr := Lib.hid hr
    replace f1 := Lib.hid f1
    replace f2 := Lib.hid f2
    replace f3 := Lib.hid f3
    replace f4 := Lib.hid f4
    replace f5 := Lib.hid f5
    replace hj := Lib.hid hj
    clear hT hT1 hlen he hrr hsep
    go_enter Tryd.func11, Tryd.ntmps11
    go_upto_region 1 with (fail)
    rw [← eB.out]
    refine wp_gen (fun W => Blk W B 28 [.int .u64 (t : Int), .int .i64 k, .int .i64 a, .int .i64 b, .int .u64 (n : Int)] ∧ Keeps w W) ⟨hB.out, hK.out⟩ ?_
    clear hB hK eB
    rintro W ⟨hB, hK⟩
    have q0 := hB.cell 0 (by simp)
    have q1 := hB.cell 1 (by simp)
    have q2 := hB.cell 2 (by simp)
    have q3 := hB.cell 3 (by simp)
    have q4 := hB.cell 4 (by simp)
    simp only [List.getElem_cons_zero, List.getElem_cons_succ] at q0 q1 q2 q3 q4
    replace hB := Lib.hid hB
    replace hK := Lib.hid hK
    go_wp2_with fail
    with_reducible refine (hr.out _).mono ?_
    rintro e w1 ⟨rfl, hK1⟩
    have hBw := hB.out.keeps hK1
    have hKw := Keeps.trans hK.out hK1
    clear q0 q1 q2 q3 q4 hB hK hK1 hr
    go_upto_region 3 with (fail)
    have q0 := hBw.cell 0 (by simp)
    have q1 := hBw.cell 1 (by simp)
    have q2 := hBw.cell 2 (by simp)
    have q3 := hBw.cell 3 (by simp)
    have q4 := hBw.cell 4 (by simp)
    simp only [List.getElem_cons_zero, List.getElem_cons_succ] at q0 q1 q2 q3 q4
    have p0 := After.cell q0
    have p1 := After.cell q1
    have p2 := After.cell q2
    have p3 := After.cell q3
    have p4 := After.cell q4
    have g1 := Lib.hid fun y : After w1 => y.call (f1.out y.now (Keeps.trans hKw y.keeps))
    have g2 := Lib.hid fun y : After w1 => y.call (f2.out y.now (Keeps.trans hKw y.keeps))
    have g3 := Lib.hid fun y : After w1 => y.call (f3.out y.now (Keeps.trans hKw y.keeps))
    have g4 := Lib.hid fun y : After w1 => y.call (f4.out y.now (Keeps.trans hKw y.keeps))
    have g5 := Lib.hid fun y : After w1 => y.call (f5.out y.now (Keeps.trans hKw y.keeps))
    clear q0 q1 q2 q3 q4 hBw
    replace hKw := Lib.hid hKw
    refine region_after_tail 15 (by kernel_rfl) (by kernel_rfl) ?_
    simp only [List.take_succ_cons, List.take_zero, List.drop_succ_cons, List.drop_zero]
    repeat go_big_quiet_step (first | (with_reducible exact g1.out _) | (with_reducible exact g2.out _) | (with_reducible exact g3.out _) | (with_reducible exact g4.out _) | (with_reducible exact g5.out _))
    refine wpQuiet_nil ?_
    rintro W3 ⟨⟨X3, hK3⟩, hX3⟩
    replace hX3 := show W3 = X3 from hX3
    subst hX3
    have hBj := Blk.new W3 9 [.string s1, .string s2, .string s3, .string s4, .string s5]
    have hKj := Keeps.alloc W3 (.cells [Value.string s1, .string s2, .string s3, .string s4, .string s5].toArray 9)
    have hj1 := hj.out _ _ hBj
    have hKf := Lib.hid (Keeps.trans hKw.out (Keeps.trans hK3 hKj))
    replace hj1 := Lib.hid hj1
    clear hBj hKj hK3
    go_wp2_with fail
    with_reducible refine hj1.out.mono ?_
    rintro e w4 ⟨rfl, hK4⟩
    replace hK4 := Lib.hid hK4
    go_wp2_with fail
    go_ret
    exact ⟨rfl, Keeps.trans hKf.out hK4.out⟩
end Go.Proofs.YtedfkonpkmckbaaDoor
