/- The walks of detentref23: Exit, Total. -/
import Derived.Test.YtmjknhjlhnljpaaRef23b
namespace Go.Proofs.Ytmjknhjlhnljpaa
open Go.RowKit

set_option maxRecDepth 100000 in
set_option maxHeartbeats 1000000 in
theorem refExit_no (cpus : Int) (v : Value) (ms : List Nat) (l : List (Int × Int)) (a b : Int) (w : World) (hv : Pairs w v l) (hm : ms.length = 16) (hf : findI l a b < 0) :
    Calls Try.prog 9 #[.agg (gCells cpus v ms).toArray, .int .i64 a, .int .i64 b] w fun e w' => e = .returned (.tuple #[.agg (gCells cpus v ms).toArray, .bool false]) ∧ Keeps w w' := by
  have hv1 := hv.one
  have hfind := fun W (hK : Keeps w W) => find_any cpus v ms l a b W (Slc_pairs hv hK)
  generalize findI l a b = f at *
  replace hv1 := Lib.hid hv1
  replace hfind := Lib.hid hfind
  replace hm := Lib.hid hm
  go_enter Try.func9, Try.ntmps9
  go_upto_region 1 with (fail)
  refine wp_gen (fun W => Blk W w.heap.size 31 (gCells cpus v ms) ∧ Blk W (w.heap.size + 1) 31 (gCells 0 (.slice none 0 0) (List.replicate 16 0)) ∧ Keeps w W) ⟨(Blk.new _ _ _).alloc _, Blk.at (by simp) rfl, (Keeps.alloc _ _).trans (Keeps.alloc _ _)⟩ ?_
  rintro W ⟨hB, hB6, hK⟩
  replace hK := Lib.hid hK
  replace hB := Lib.hid hB
  replace hB6 := Lib.hid hB6
  go_wp2_with (first | (refine loadG hB.out hm.out rfl _ rfl rfl ?_))
  refine (hfind.out W hK.out).mono ?_
  rintro e W2 ⟨rfl, hK2⟩
  replace hK := Lib.hid (Keeps.trans hK.out hK2)
  replace hB := Lib.hid (hB.out.keeps hK2)
  replace hB6 := Lib.hid (hB6.out.keeps hK2)
  have fin : Blk (W2.setRow (w.heap.size + 1) (gCells cpus v ms).toArray) (w.heap.size + 1) 31 (gCells cpus v ms) ∧ Keeps w (W2.setRow (w.heap.size + 1) (gCells cpus v ms).toArray) :=
    ⟨hB6.out.setRow _, Chg.keeps (S := fun k => k = w.heap.size + 1) (Chg.setRow _ rfl) hK.out (fun k hk => by omega)⟩
  replace fin := Lib.hid fin
  go_wp2_with (first | (refine loadG hB.out hm.out rfl _ rfl rfl ?_) | (refine storeG hB6.out rfl hm.out hv1.out rfl _ _ rfl rfl rfl rfl ?_))
  refine bodyPost_ret (results_row_slot rfl _ fin.out.1 rfl _ Try.underlying31 rfl 18 sizeG (gCells_len cpus v ms hm.out)) rfl ⟨rfl, fin.out.2⟩

/-- The list without the one at k. -/
def dropAt {α : Type} (l : List α) (k : Nat) : List α := l.take k ++ l.drop (k + 1)
theorem dropAt_map {α β : Type} (f : α → β) (l : List α) (k : Nat) : (dropAt l k).map f = (l.map f).take k ++ (l.map f).drop (k + 1) := by simp [dropAt, List.map_take, List.map_drop]
set_option maxRecDepth 100000 in
set_option maxHeartbeats 1000000 in
theorem refExit_yes (cpus : Int) (v : Value) (ms : List Nat) (l : List (Int × Int)) (a b : Int) (k : Nat) (w : World) (hv : Pairs w v l) (hm : ms.length = 16) (hk : k < l.length) (hf : findI l a b = (k : Int)) (hll : l.length ≤ 1000) :
    Calls Try.prog 9 #[.agg (gCells cpus v ms).toArray, .int .i64 a, .int .i64 b] w (RefG w cpus (dropAt l k) ms (.bool true)) := by
  have hv1 := hv.one
  have hfind := fun W (hK : Keeps w W) => find_any cpus v ms l a b W (Slc_pairs hv hK)
  rw [hf] at hfind
  clear hf
  replace hv1 := Lib.hid hv1
  replace hfind := Lib.hid hfind
  replace hm := Lib.hid hm
  replace hll := Lib.hid hll
  obtain ⟨p, cap, rfl, hl, hc, hcell⟩ := hv.get
  obtain ⟨c, off, rfl, _, _⟩ := hcell k hk
  obtain ⟨ad, had, hadb, hd⟩ := SlcS.dropAny hv (k + 1) (by rw [List.length_map]; exact hk)
  replace hv := Lib.hid hv
  replace hd := Lib.hid hd
  clear hcell
  go_enter Try.func9, Try.ntmps9
  go_upto_region 1 with (fail)
  refine wp_gen (fun W => Blk W w.heap.size 31 (gCells cpus (.slice (some ⟨c, off, none⟩) l.length cap) ms) ∧ Blk W (w.heap.size + 1) 31 (gCells 0 (.slice none 0 0) (List.replicate 16 0)) ∧ Keeps w W) ⟨(Blk.new _ _ _).alloc _, Blk.at (by simp) rfl, (Keeps.alloc _ _).trans (Keeps.alloc _ _)⟩ ?_
  rintro W ⟨hB, hB6, hK⟩
  replace hK := Lib.hid hK
  replace hB := Lib.hid hB
  replace hB6 := Lib.hid hB6
  go_wp2_with (first | (refine loadG hB.out hm.out rfl _ rfl rfl ?_))
  refine (hfind.out W hK.out).mono ?_
  rintro e W2 ⟨rfl, hK2⟩
  replace hK := Lib.hid (Keeps.trans hK.out hK2)
  replace hB := hB.out.keeps hK2
  replace hB6 := Lib.hid (hB6.out.keeps hK2)
  have hc1 := hB.cell 1 (by simp [gCells])
  simp only [gCells, List.getElem_cons_succ, List.getElem_cons_zero] at hc1
  have hlt := hB.lt
  have hlt6 := hB6.out.lt
  have hB0 := Keeps.alloc W2 (.cells #[] 56)
  have hsrc := SlcS.take (Slc_pairs hv.out (Keeps.trans hK.out hB0)) k (by simp; omega)
  replace hB0 := Lib.hid hB0
  replace hsrc := Lib.hid hsrc
  replace hB := Lib.hid hB
  have hk1 : (k : Int) < (l.length : Int) := by omega
  have hk2 : (k : Int) ≤ (cap : Int) := by omega
  have hk0 : (0 : Int) ≤ (k : Int) := by omega
  go_wp2_with (at_builtin; refine appN rfl _ _ 28 56 _ 2 16 rfl Try.underlying28 infoPair rfl (by decide) W2.heap.size _ [] rfl (RowS.empty 2 _ _ W2 (Nat.le_refl _)) _ _ rfl hsrc.out (mem_take (pairs_one l)) ?c1 ?c2 ?c3 ?_)
  case c1 => have := hll.out; simp; unfold maxLen; omega
  case c2 => have := hll.out; simp; omega
  case c3 => exact hB0.out.size
  intro v1 W3 hrow _ hbel
  replace hrow : RowS 2 W2.heap.size 56 W3 v1 ((l.map pairEl).take k) := by simpa using hrow
  have hK3 : Keeps W2 W3 := Below.trans hB0.out hbel
  obtain ⟨q1, cap1, rfl⟩ := hrow.any
  have hBW2 := hB
  have hB6W2 := hB6
  have hKW2 := hK
  replace hB := hB.out.keeps hK3
  have hsrc2 := SlcS.below hd.out (Keeps.trans hKW2.out hK3)
  replace hK3 := Lib.hid hK3
  have hsz3 := hK3.out.size
  clear hc1 hsrc hB0 hbel hlt
  have hc1 := hB.cell 1 (by simp [gCells])
  simp only [gCells, List.getElem_cons_succ, List.getElem_cons_zero] at hc1
  have hlt := hB.lt
  replace hsrc2 := Lib.hid hsrc2
  replace hrow := Lib.hid hrow
  replace hB := Lib.hid hB
  have hwr : IntKind.i64.wrap ((k : Int) + 1) = (k : Int) + 1 := IntWalk.i64_in _ (by omega)
  have htn : ((k : Int) + 1).toNat = k + 1 := by omega
  have hn0 : (0 : Int) ≤ (k : Int) + 1 := by omega
  have hn1 : ((k : Int) + 1) ≤ (l.length : Int) := by omega
  go_wp2_with (at_builtin; refine appN rfl _ _ 28 56 _ 2 16 rfl Try.underlying28 infoPair rfl (by decide) W2.heap.size _ _ rfl hrow.out _ _ rfl hsrc2.out (mem_drop (pairs_one l)) ?c1 ?c2 ?c3 ?_)
  case c1 => have := hll.out; simp; unfold maxLen; omega
  case c2 => have := hll.out; simp; omega
  case c3 => omega
  intro v2 W4 hrow _ hbel
  rw [← dropAt_map] at hrow
  have hK4 : Keeps W2 W4 := Below.trans hK3.out hbel
  obtain ⟨q2, cap2, rfl⟩ := hrow.any
  replace hB := hBW2.out.keeps hK4
  replace hB6 := Lib.hid (hB6W2.out.keeps hK4)
  replace hK := Lib.hid (Keeps.trans hKW2.out hK4)
  clear hc1 hsrc2 hbel had htn hwr
  have hc1 := hB.cell 1 (by simp [gCells])
  have hf1 := hB.frozen 1
  simp only [gCells, List.getElem_cons_succ, List.getElem_cons_zero] at hc1
  generalize hn2 : ((dropAt l k).map pairEl).length = n2 at *
  replace hn2 := Lib.hid hn2
  have hset : Blk (W4.setCell ⟨w.heap.size, 1, none⟩ (.slice q2 n2 cap2)) w.heap.size 31 (gCells cpus (.slice q2 n2 cap2) ms) := hB.set 1 _
  have hset6 := hB6.out.other (b' := w.heap.size) (by omega) 1 (.slice q2 n2 cap2)
  have hsetK : Keeps w (W4.setCell ⟨w.heap.size, 1, none⟩ (.slice q2 n2 cap2)) := Chg.keeps (S := fun k => k = w.heap.size) (Chg.setCell _ _ rfl) hK.out (fun k hk => by omega)
  have hsetR := hrow.chg (S := fun k => k = w.heap.size) (Chg.setCell (b := w.heap.size) 1 (.slice q2 n2 cap2) rfl) (fun k hk => by omega)
  replace hset := Lib.hid hset
  replace hset6 := Lib.hid hset6
  replace hsetK := Lib.hid hsetK
  replace hsetR := Lib.hid hsetR
  clear hrow
  go_upto_region 6 with (fail)
  refine wp_gen (fun W => Blk W w.heap.size 31 (gCells cpus (.slice q2 n2 cap2) ms) ∧ Blk W (w.heap.size + 1) 31 (gCells 0 (.slice none 0 0) (List.replicate 16 0)) ∧ Keeps w W ∧ RowS 2 W2.heap.size 56 W (.slice q2 n2 cap2) ((dropAt l k).map pairEl)) ⟨hset.out, hset6.out, hsetK.out, hsetR.out⟩ ?_
  clear hset hset6 hsetK hsetR hc1 hf1 hK hB hB6
  rintro W ⟨hB, hB6, hK, hR⟩
  have fin : Blk (W.setRow (w.heap.size + 1) (gCells cpus (.slice q2 n2 cap2) ms).toArray) (w.heap.size + 1) 31 (gCells cpus (.slice q2 n2 cap2) ms) ∧ Keeps w (W.setRow (w.heap.size + 1) (gCells cpus (.slice q2 n2 cap2) ms).toArray) :=
    ⟨hB6.setRow _, Chg.keeps (S := fun k => k = w.heap.size + 1) (Chg.setRow _ rfl) hK (fun k hk => by omega)⟩
  have finR : Pairs (W.setRow (w.heap.size + 1) (gCells cpus (.slice q2 n2 cap2) ms).toArray) (.slice q2 n2 cap2) (dropAt l k) := (hR.chg (S := fun k => k = w.heap.size + 1) (Chg.setRow _ rfl) (fun k hk => by omega)).slcs
  have finO : ∀ c, (Value.slice q2 n2 cap2).ownBlock = some c → w.heap.size ≤ c := fun c hc => by have := hR.own c hc; omega
  replace fin := Lib.hid fin
  replace finR := Lib.hid finR
  replace finO := Lib.hid finO
  replace hB := Lib.hid hB
  replace hB6 := Lib.hid hB6
  clear hR
  go_wp2_with (first | (refine loadG hB.out hm.out rfl _ rfl rfl ?_) | (refine storeG hB6.out rfl hm.out rfl rfl _ _ rfl rfl rfl rfl ?_))
  refine bodyPost_ret (results_row_slot rfl _ fin.out.1 rfl _ Try.underlying31 rfl 18 sizeG (gCells_len cpus _ ms hm.out)) rfl ⟨_, rfl, finR.out, finO.out, fin.out.2⟩

set_option maxRecDepth 100000 in
set_option maxHeartbeats 800000 in
theorem refTotal_any (cpus : Int) (v : Value) (ms : List Nat) (w : World) (hm : ms.length = 16) (hmb : ∀ c ∈ ms, c ≤ 255) :
    Calls Try.prog 19 #[.agg (gCells cpus v ms).toArray] w fun e w' => e = .returned (.int .i64 (sumTo ms 16 : Nat)) ∧ Keeps w w' := by
  have hle := fun k hk => sumTo_le ms k hmb hk
  have hsucc := fun k hk => sumTo_succ ms k hk
  have hgetn : ∀ n, n < 16 → (gCells cpus v ms).getD (2 + n) undef = .int .i64 (ms.getD n 0 : Nat) := fun n hn => gCells_get cpus v ms n (by omega)
  have hbn : ∀ n, n < 16 → ms.getD n 0 ≤ 255 := fun n hn => getD_mem (P := fun c => c ≤ 255) hmb (by omega)
  rw [hm] at hle hsucc
  replace hle := Lib.hid hle
  replace hsucc := Lib.hid hsucc
  replace hgetn := Lib.hid hgetn
  replace hbn := Lib.hid hbn
  clear hmb
  have hlen := gCells_len cpus v ms hm
  replace hm := Lib.hid hm
  replace hlen := Lib.hid hlen
  go_enter Try.func19, Try.ntmps19
  go_upto_region 1 with (fail)
  refine wp_gen (fun W => Blk W w.heap.size 31 (gCells cpus v ms) ∧ Keeps w W) ⟨(Blk.new _ _ _), (Keeps.alloc _ _)⟩ ?_
  rintro W ⟨hB, hK⟩
  replace hK := Lib.hid hK
  replace hB := Lib.hid hB
  go_wp2_with fail
  go_loop [3, 4] (fun t i => ∃ k : Nat, k ≤ 16 ∧ i = .int .i64 k ∧ t = .int .i64 (sumTo ms k : Nat)) (fun _ i => 16 - (intOf i).toNat)
  case atStart => exact ⟨0, by omega, rfl, rfl⟩
  case round =>
    obtain ⟨k, hk, rfl, rfl⟩ := hrel
    by_cases hlt : k < 16
    · have hcn := hB.out.cellD (2 + k) (by rw [hlen.out]; omega)
      rw [hgetn.out k hlt] at hcn
      have h1 := hle.out k (by omega)
      have h2 := hle.out (k + 1) (by omega)
      have h3 := hsucc.out k hlt
      have hk0 : (0 : Int) ≤ (k : Int) := by omega
      have hk1 : (k : Int) < 16 := by omega
      have hw : IntKind.i64.wrap (((sumTo ms k : Nat) : Int) + ((ms.getD k 0 : Nat) : Int)) = ((sumTo ms (k + 1) : Nat) : Int) := by
        rw [IntWalk.i64_in _ (by omega)]; omega
      clear h1 h2 h3
      generalize ms.getD k 0 = x at *
      go_wp2_with fail
      go_round
      case rel => exact ⟨k + 1, by omega, by go_num, rfl⟩
      case measure => (simp [intOf]; try omega)
    · obtain rfl : k = 16 := by omega
      go_wp2_with fail
      go_ret
      exact ⟨rfl, hK.out⟩
end Go.Proofs.Ytmjknhjlhnljpaa
