/- Merged: qKRef11 qKRef11b qKRef11c qKRef11d qKPlay11M. -/
import Derived.Test.YtefippjakkgjkaaDoorBase
import Derived.Test.YtefippjakkgjkaaDoorStr2
import Derived.Test.YtefippjakkgjkaaDoorKCalls
/- The reference of calls: a list of callbacks; Count, Open. -/
namespace Go.Proofs.YtefippjakkgjkaaDoor.K
open Go.RowKit

/-- A callback of the reference: CPU, id, generation. -/
abbrev C3 : Type := Nat × Int × Int
def rc (x : C3) : List Value := [.int .i64 (x.1 : Int), .int .i64 x.2.1, .int .i64 x.2.2]
/-- A list of callbacks lies behind the slice v. -/
def Cs3 (w : World) (v : Value) (l : List C3) : Prop := SlcS 3 w v (l.map rc)
theorem Cs3.keeps {w w' : World} {v : Value} {l : List C3} (h : Cs3 w v l) (hk : Keeps w w') : Cs3 w' v l := SlcS.below h hk
theorem Cs3.get {w : World} {v : Value} {l : List C3} (h : Cs3 w v l) : ∃ p cap, v = .slice p l.length cap ∧ l.length ≤ cap ∧ cap ≤ 9223372036854775807 ∧
    ∀ i, (hi : i < l.length) → ∃ b off, p = some ⟨b, off, none⟩ ∧ w.cell? ⟨b, off + i * 3, none⟩ = some (.int .i64 (l[i].1 : Int)) ∧ w.cell? ⟨b, off + i * 3 + 1, none⟩ = some (.int .i64 l[i].2.1) ∧ w.cell? ⟨b, off + i * 3 + 2, none⟩ = some (.int .i64 l[i].2.2) := by
  obtain ⟨p, cap, hv, hl, hc, hcell⟩ := SlcS.get h
  rw [List.length_map] at hv hl hcell
  refine ⟨p, cap, hv, hl, hc, fun i hi => ?_⟩
  obtain ⟨b, off, hp, hk⟩ := hcell i hi
  have h0 := hk 0 (by omega)
  have h1 := hk 1 (by omega)
  have h2 := hk 2 (by omega)
  refine ⟨b, off, hp, ?_, ?_, ?_⟩
  · rw [Nat.add_zero] at h0; rw [h0]; simp [List.getD, hi, rc]
  · rw [h1]; simp [List.getD, hi, rc]
  · rw [h2]; simp [List.getD, hi, rc]
/-- The lists of the reference as a value. -/
def ls3 (n : Nat) (last : Int) (v : Value) : Value := .agg #[.int .i64 (n : Int), .int .i64 last, v]
def cnt3 (l : List C3) (c : Nat) : Nat := (l.filter fun x => x.1 == c).length
def open3 (l : List C3) : Nat := (l.filter fun x => decide (x.2.2 = 0)).length
def most3 (l : List C3) : Int := l.foldl (fun m x => max m x.2.2) 0
theorem cnt3_succ (l : List C3) (c j : Nat) (h : j < l.length) : cnt3 (l.take (j + 1)) c = cnt3 (l.take j) c + if l[j].1 = c then 1 else 0 := by
  unfold cnt3
  rw [List.take_succ_eq_append_getElem h, List.filter_append, List.length_append]
  by_cases e : l[j].1 = c <;> simp [e]
theorem open3_succ (l : List C3) (j : Nat) (h : j < l.length) : open3 (l.take (j + 1)) = open3 (l.take j) + if l[j].2.2 = 0 then 1 else 0 := by
  unfold open3
  rw [List.take_succ_eq_append_getElem h, List.filter_append, List.length_append]
  by_cases e : l[j].2.2 = 0 <;> simp [e]
theorem most3_succ (l : List C3) (j : Nat) (h : j < l.length) : most3 (l.take (j + 1)) = max (most3 (l.take j)) l[j].2.2 := by
  unfold most3
  rw [List.take_succ_eq_append_getElem h, List.foldl_append]; rfl
theorem cnt3_le (l : List C3) (c : Nat) : cnt3 l c ≤ l.length := List.length_filter_le _ _
theorem open3_le (l : List C3) : open3 l ≤ l.length := List.length_filter_le _ _
set_option maxRecDepth 100000 in
set_option maxHeartbeats 1000000 in
theorem r11Count_any (n : Nat) (last : Int) (v : Value) (l : List C3) (c : Nat) (w : World) (hv : Cs3 w v l) :
    Calls Tryd.prog 72 #[ls3 n last v, .int .i64 (c : Int)] w fun e w' => e = .returned (.int .i64 (cnt3 l c : Int)) ∧ Keeps w w' := by
  obtain ⟨p, cap, rfl, hl, hc, _⟩ := hv.get
  have hlI : (0 : Int) ≤ (l.length : Int) := by omega
  replace hv := Lib.hid hv
  unfold ls3
  go_enter Tryd.func72, Tryd.ntmps72
  go_upto_region 1 with (fail)
  obtain ⟨B, hB⟩ : ∃ B, B = w.heap.size := ⟨_, rfl⟩
  refine wp_gen (fun W => Blk W B 52 [.int .i64 (n : Int), .int .i64 last, .slice p l.length cap] ∧ Keeps w W) ⟨by rw [hB]; exact Blk.new _ _ _, Keeps.alloc _ _⟩ ?_
  rw [← hB]
  clear hB
  rintro W ⟨hB, hK⟩
  have hv2 := hv.out.keeps hK
  have z2 := hB.cell 2 (by simp)
  simp only [List.getElem_cons_succ, List.getElem_cons_zero] at z2
  have hBl := hB.lt
  replace hK := Lib.hid hK
  replace hv2 := Lib.hid hv2
  clear hv hB
  go_wp2_with fail
  go_loop [5, 6] (fun a i => ∃ j : Nat, j ≤ l.length ∧ i = .int .i64 (j : Int) ∧ ∃ N : Nat, a = .int .i64 (N : Int) ∧ N = cnt3 (l.take j) c) (fun _ i => l.length - (intOf i).toNat)
  case atStart => exact ⟨0, Nat.zero_le _, rfl, 0, rfl, rfl⟩
  case round =>
    obtain ⟨j, hj, rfl, N0, rfl, hN⟩ := hrel
    by_cases hlt : j < l.length
    · obtain ⟨_, _, hq, _, _, hcell⟩ := hv2.out.get
      obtain ⟨b, off, hp, y0, y1, y2⟩ := hcell j hlt
      simp only [Value.slice.injEq] at hq
      obtain rfl : p = some ⟨b, off, none⟩ := hq.1.trans hp
      clear hq hp hcell y1 y2
      have hs := cnt3_succ l c j hlt
      have hcl := cnt3_le (l.take j) c
      rw [List.length_take] at hcl
      have hltI := Int.ofNat_lt.2 hlt
      rw [← hN] at hs hcl
      have hc2 : (N0 : Int) ≤ (j : Int) := by omega
      have hc0 : (0 : Int) ≤ (N0 : Int) := by omega
      generalize l[j].1 = x at *
      clear hcl
      replace hN := Lib.hid hN
      by_cases e : x = c
      · have e1 : (x == c) = true := by simpa using e
        rw [if_pos e] at hs
        replace e := Lib.hid e
        replace hs := Lib.hid hs
        go_wp2_with fail
        go_round
        case rel => exact ⟨j + 1, by omega, by go_num, N0 + 1, by go_num, hs.out.symm⟩
        case measure => (simp [intOf]; try omega)
      · have e1 : (x == c) = false := by simpa using e
        rw [if_neg e] at hs
        replace e := Lib.hid e
        replace hs := Lib.hid hs
        go_wp2_with fail
        go_round
        case rel => exact ⟨j + 1, by omega, by go_num, N0, rfl, hs.out.symm⟩
        case measure => (simp [intOf]; try omega)
    · obtain rfl : j = l.length := by omega
      rw [List.take_length] at hN
      replace hN := Lib.hid hN
      go_wp2_with fail
      go_ret
      exact ⟨by rw [← hN.out]; rfl, hK.out⟩
set_option maxRecDepth 100000 in
set_option maxHeartbeats 1000000 in
theorem r11Open_any (n : Nat) (last : Int) (v : Value) (l : List C3) (w : World) (hv : Cs3 w v l) :
    Calls Tryd.prog 55 #[ls3 n last v] w fun e w' => e = .returned (.tuple #[.int .i64 (open3 l : Int), .int .i64 (most3 l)]) ∧ Keeps w w' := by
  obtain ⟨p, cap, rfl, hl, hc, _⟩ := hv.get
  have hlI : (0 : Int) ≤ (l.length : Int) := by omega
  replace hv := Lib.hid hv
  unfold ls3
  go_enter Tryd.func55, Tryd.ntmps55
  go_upto_region 1 with (fail)
  obtain ⟨B, hB⟩ : ∃ B, B = w.heap.size := ⟨_, rfl⟩
  refine wp_gen (fun W => Blk W B 52 [.int .i64 (n : Int), .int .i64 last, .slice p l.length cap] ∧ Keeps w W) ⟨by rw [hB]; exact Blk.new _ _ _, Keeps.alloc _ _⟩ ?_
  rw [← hB]
  clear hB
  rintro W ⟨hB, hK⟩
  have hv2 := hv.out.keeps hK
  have z2 := hB.cell 2 (by simp)
  simp only [List.getElem_cons_succ, List.getElem_cons_zero] at z2
  have hBl := hB.lt
  replace hK := Lib.hid hK
  replace hv2 := Lib.hid hv2
  clear hv hB
  go_wp2_with fail
  go_loop [4, 5, 6] (fun a m i => ∃ j : Nat, j ≤ l.length ∧ i = .int .i64 (j : Int) ∧ ∃ (N : Nat) (M : Int), a = .int .i64 (N : Int) ∧ m = .int .i64 M ∧ N = open3 (l.take j) ∧ M = most3 (l.take j)) (fun _ _ i => l.length - (intOf i).toNat)
  case atStart => exact ⟨0, Nat.zero_le _, rfl, 0, 0, rfl, rfl, rfl, rfl⟩
  case round =>
    obtain ⟨j, hj, rfl, N0, M, rfl, rfl, hN, hM⟩ := hrel
    by_cases hlt : j < l.length
    · obtain ⟨_, _, hq, _, _, hcell⟩ := hv2.out.get
      obtain ⟨b, off, hp, y0, y1, y2⟩ := hcell j hlt
      simp only [Value.slice.injEq] at hq
      obtain rfl : p = some ⟨b, off, none⟩ := hq.1.trans hp
      clear hq hp hcell y0 y1
      have hs := open3_succ l j hlt
      have hm := most3_succ l j hlt
      have hcl := open3_le (l.take j)
      rw [List.length_take] at hcl
      have hltI := Int.ofNat_lt.2 hlt
      rw [← hN] at hs hcl
      rw [← hM] at hm
      have hc2 : (N0 : Int) ≤ (j : Int) := by omega
      have hc0 : (0 : Int) ≤ (N0 : Int) := by omega
      generalize l[j].2.2 = x at *
      clear hcl
      replace hN := Lib.hid hN
      replace hM := Lib.hid hM
      by_cases g : M < x
      · rw [Int.max_eq_right (by omega)] at hm
        replace hm := Lib.hid hm
        by_cases e : x = 0
        · rw [if_pos e] at hs
          replace hs := Lib.hid hs
          subst e
          go_wp2_with fail
          go_round
          case rel => exact ⟨j + 1, by omega, by go_num, N0 + 1, _, by go_num, rfl, hs.out.symm, hm.out.symm⟩
          case measure => (simp [intOf]; try omega)
        · have e1 : (x == 0) = false := by simpa using e
          rw [if_neg e] at hs
          replace e := Lib.hid e
          replace hs := Lib.hid hs
          go_wp2_with fail
          go_round
          case rel => exact ⟨j + 1, by omega, by go_num, N0, _, rfl, rfl, hs.out.symm, hm.out.symm⟩
          case measure => (simp [intOf]; try omega)
      · rw [Int.max_eq_left (by omega)] at hm
        replace hm := Lib.hid hm
        by_cases e : x = 0
        · rw [if_pos e] at hs
          replace hs := Lib.hid hs
          subst e
          go_wp2_with fail
          go_round
          case rel => exact ⟨j + 1, by omega, by go_num, N0 + 1, _, by go_num, rfl, hs.out.symm, hm.out.symm⟩
          case measure => (simp [intOf]; try omega)
        · have e1 : (x == 0) = false := by simpa using e
          rw [if_neg e] at hs
          replace e := Lib.hid e
          replace hs := Lib.hid hs
          go_wp2_with fail
          go_round
          case rel => exact ⟨j + 1, by omega, by go_num, N0, _, rfl, rfl, hs.out.symm, hm.out.symm⟩
          case measure => (simp [intOf]; try omega)
    · obtain rfl : j = l.length := by omega
      rw [List.take_length] at hN hM
      replace hN := Lib.hid hN
      replace hM := Lib.hid hM
      go_wp2_with fail
      go_ret2
      exact ⟨by rw [← hN.out, ← hM.out]; rfl, hK.out⟩
end Go.Proofs.YtefippjakkgjkaaDoor.K

/- The reference of calls: Add. -/
namespace Go.Proofs.YtefippjakkgjkaaDoor.K
open Go.RowKit

def lsC (n : Nat) (last : Int) (v : Value) : List Value := [.int .i64 (n : Int), .int .i64 last, v]
theorem size11 : (Tryd.prog.info? 52).map (·.size) = some 3 := by kernel_rfl
theorem infoRC : (Tryd.prog.info? 126).map (fun i => (i.zero, i.size, i.bytes)) = some (some (.agg #[.int .i64 0, .int .i64 0, .int .i64 0]), 3, 24) := by kernel_rfl
theorem lsC_one (n : Nat) (last : Int) (v : Value) (hv : v.oneCell' = true) : ∀ c ∈ lsC n last v, c.oneCell' = true := by
  intro c hc
  simp only [lsC, List.mem_cons, List.not_mem_nil, or_false] at hc
  rcases hc with rfl | rfl | rfl
  · rfl
  · rfl
  · exact hv
theorem rc_one (l : List C3) : ∀ el ∈ l.map rc, ∀ y ∈ el, y.oneCell' = true := by
  intro el hel y hy
  obtain ⟨s, _, rfl⟩ := List.mem_map.1 hel
  simp only [rc, List.mem_cons, List.not_mem_nil, or_false] at hy
  rcases hy with rfl | rfl | rfl <;> rfl
theorem loadL {ops : Array Oper} {rest : List Oper} {o : Oper} {a : Act} {w : World} {Q : Exit → Act → World → Prop} {g n : Nat} {last : Int} {v : Value} (hb : Blk w g 52 (lsC n last v)) (hgd : o.guard = none) (x : Operand) (ho : o.op = .load 52 x)
    (hx : a.eval x = .pointer (some ⟨g, 0, none⟩)) (h : wpList Tryd.prog ops Q rest (a.put o.dst (.agg (lsC n last v).toArray)) w) : wpList Tryd.prog ops Q (o :: rest) a w :=
  loadRow hb hgd _ x ho hx _ Tryd.underlying52 rfl 3 size11 rfl h
theorem storeL {ops : Array Oper} {rest : List Oper} {o : Oper} {a : Act} {w : World} {Q : Exit → Act → World → Prop} {g n n' : Nat} {last last' : Int} {v v' : Value} (hb : Blk w g 52 (lsC n' last' v')) (hv : v.oneCell' = true) (hgd : o.guard = none) (x y : Operand) (ho : o.op = .store 52 x y) (hd : o.dst = none)
    (hx : a.eval x = .pointer (some ⟨g, 0, none⟩)) (hy : a.eval y = .agg (lsC n last v).toArray) (h : wpList Tryd.prog ops Q rest a (w.setRow g (lsC n last v).toArray)) : wpList Tryd.prog ops Q (o :: rest) a w :=
  storeRow hb (lsC n last v) hgd _ x y ho hd hx hy 3 size11 rfl rfl (lsC_one n last v hv) h
/-- Behind the box of the receiver and the result's block. -/
structure Box2 (w : World) (B R : Nat) (n : Nat) (last : Int) (v : Value) (W : World) : Prop where
  b : Blk W B 52 (lsC n last v)
  r : Blk W R 52 (lsC 0 0 (.slice none 0 0))
  k : Keeps w W
  new : w.heap.size ≤ B ∧ w.heap.size ≤ R
theorem Box2.kept {w W W' : World} {B R n : Nat} {last : Int} {v : Value} (h : Box2 w B R n last v W) (hk : Below W.heap.size W W') : Box2 w B R n last v W' := ⟨h.b.keeps hk, h.r.keeps hk, Keeps.trans h.k hk, h.new⟩
theorem Box2.fin {w W : World} {B R n n2 : Nat} {last last2 : Int} {v u : Value} (h : Box2 w B R n last v W) : Blk (W.setRow R (lsC n2 last2 u).toArray) R 52 (lsC n2 last2 u) ∧ Keeps w (W.setRow R (lsC n2 last2 u).toArray) :=
  ⟨h.r.setRow _, Chg.keeps (S := fun k => k = R) (Chg.setRow _ rfl) h.k (fun k hk => by have := h.new; omega)⟩
theorem Box2.start {w : World} {B R n : Nat} {last : Int} {v : Value} (h1 : B = w.heap.size) (h2 : R = w.heap.size + 1) :
    Box2 w B R n last v ((w.alloc (.cells (lsC n last v).toArray 52)).alloc (.cells (lsC 0 0 (.slice none 0 0)).toArray 52)) := by
  subst h1; subst h2
  exact ⟨(Blk.new _ _ _).alloc _, Blk.at (by simp) rfl, (Keeps.alloc _ _).trans (Keeps.alloc _ _), by omega, by omega⟩
set_option maxRecDepth 100000 in
set_option maxHeartbeats 1000000 in
theorem r11Add_no (n : Nat) (last : Int) (v u : Value) (l : List C3) (c : Int) (w : World) (hv : Cs3 w v l) (h : c < 0 ∨ (n : Int) ≤ c) :
    Calls Tryd.prog 51 #[ls3 n last v, .int .i64 c, u] w fun e w' => e = .returned (.tuple #[ls3 n last v, .int .i64 2]) ∧ Keeps w w' := by
  obtain ⟨p, cap, rfl, hl, hc, _⟩ := hv.get
  have hcase : c < 0 ∨ (¬ c < 0 ∧ (n : Int) ≤ c) := by omega
  unfold ls3
  clear h hv
  go_enter Tryd.func51, Tryd.ntmps51
  go_upto_region 1 with (fail)
  obtain ⟨B, hB⟩ : ∃ B, B = w.heap.size := ⟨_, rfl⟩
  obtain ⟨R, hR⟩ : ∃ R, R = w.heap.size + 1 := ⟨_, rfl⟩
  refine wp_gen (fun W => Box2 w B R n last (.slice p l.length cap) W) (Box2.start hB hR) ?_
  rw [← hR, ← hB]
  clear hB hR
  rintro W hX
  have z0 := hX.b.cell 0 (by simp [lsC])
  simp only [lsC, List.getElem_cons_zero] at z0
  replace hX := Lib.hid hX
  rcases hcase with h1 | ⟨h1, h2⟩
  all_goals
    go_wp2_with (first | (refine loadL hX.out.b rfl _ rfl rfl ?_) | (refine storeL hX.out.r rfl rfl _ _ rfl rfl rfl rfl ?_))
    refine bodyPost_ret (results_row_slot rfl _ hX.out.fin.1 rfl _ Tryd.underlying52 rfl 3 size11 rfl) rfl ⟨rfl, hX.out.fin.2⟩
/-- A value that lies in memory behind w's. -/
def FreshV (w : World) (v : Value) : Prop := ∀ b, v.ownBlock = some b → w.heap.size ≤ b
theorem _root_.Go.Proofs.YtefippjakkgjkaaDoor.RowS.fresh {sz base : Nat} {e : TypeId} {w w0 : World} {v : Value} {els : List (List Value)} (h : RowS sz base e w v els) (hb : w0.heap.size ≤ base) : FreshV w0 v := fun b e => Nat.le_trans hb (h.own b e)
def addN (l : List C3) (c : Nat) (ids : List Int) : List C3 := l ++ ids.map fun i => (c, i, 0)
def add3 (l : List C3) (c : Nat) (ids : List Int) : List C3 := addN l c (ids.take (64 - cnt3 l c))
theorem addN_succ (l : List C3) (c k : Nat) (ids : List Int) (h : k < ids.length) : addN l c (ids.take (k + 1)) = addN l c (ids.take k) ++ [(c, ids[k], 0)] := by
  unfold addN
  rw [List.take_succ_eq_append_getElem h, List.map_append, ← List.append_assoc]; rfl
theorem addN_len (l : List C3) (c k : Nat) (ids : List Int) (h : k ≤ ids.length) : (addN l c (ids.take k)).length = l.length + k := by
  unfold addN
  rw [List.length_append, List.length_map, List.length_take]; omega
theorem _root_.Go.Proofs.YtefippjakkgjkaaDoor.RowS.cs3 {w : World} {base : Nat} {e : TypeId} {v : Value} {l : List C3} (h : RowS 3 base e w v (l.map rc)) : Cs3 w v l := h.slcs
set_option maxRecDepth 100000 in
set_option maxHeartbeats 2000000 in
theorem r11Add_yes (n : Nat) (last : Int) (v u : Value) (l : List C3) (c : Nat) (ids : List Int) (w : World) (hv : Cs3 w v l) (hu : Ints w u ids) (hc : c < n) (hl1 : l.length ≤ 100000) (hi1 : ids.length ≤ 1000) (hcn : cnt3 l c ≤ 64) :
    Calls Tryd.prog 51 #[ls3 n last v, .int .i64 (c : Int), u] w fun e w' => ∃ v', e = .returned (.tuple #[ls3 n last v', .int .i64 (if ids.length ≤ 64 - cnt3 l c then 0 else 3)]) ∧ Cs3 w' v' (add3 l c ids) ∧ FreshV w v' ∧ Keeps w w' := by
  obtain ⟨p, cap, rfl, hl, hc1, _⟩ := hv.get
  obtain ⟨q, cap2, rfl, hl2, hc2, _⟩ := hu.open
  have hcnt := fun (W : World) (h : Cs3 W (.slice p l.length cap) l) => r11Count_any n last (.slice p l.length cap) l c W h
  have hcI : ¬ (c : Int) < 0 := by omega
  have hcI2 : ¬ (n : Int) ≤ (c : Int) := by omega
  have hliI : (0 : Int) ≤ (ids.length : Int) := by omega
  obtain ⟨er, her⟩ : ∃ x : Int, x = if ids.length ≤ 64 - cnt3 l c then 0 else 3 := ⟨_, rfl⟩
  rw [← her]
  replace hv := Lib.hid hv
  replace hu := Lib.hid hu
  replace hcnt := Lib.hid hcnt
  unfold ls3
  replace her := Lib.hid her
  go_enter Tryd.func51, Tryd.ntmps51
  go_upto_region 1 with (fail)
  obtain ⟨B, hB⟩ : ∃ B, B = w.heap.size := ⟨_, rfl⟩
  obtain ⟨R, hR⟩ : ∃ R, R = w.heap.size + 1 := ⟨_, rfl⟩
  refine wp_gen (fun W => Box2 w B R n last (.slice p l.length cap) W) (Box2.start hB hR) ?_
  rw [← hR, ← hB]
  clear hB hR
  rintro W hX
  have z0 := hX.b.cell 0 (by simp [lsC])
  have z2 := hX.b.cell 2 (by simp [lsC])
  simp only [lsC, List.getElem_cons_zero, List.getElem_cons_succ] at z0 z2
  have hBl := hX.b.lt
  have hRl := hX.r.lt
  have hwW : w.heap.size ≤ W.heap.size := hX.k.size
  have hB0 := Keeps.alloc W (.cells #[] 126)
  have hsrc := (hv.out.keeps hX.k).keeps hB0
  replace hX := Lib.hid hX
  replace hB0 := Lib.hid hB0
  replace hsrc := Lib.hid hsrc
  go_wp2_with (at_builtin; refine appN rfl _ _ 50 126 _ 3 24 rfl Tryd.underlying50 infoRC rfl (by decide) W.heap.size _ [] rfl (RowS.empty 3 _ _ W (Nat.le_refl _)) _ (l.map rc) rfl hsrc.out (rc_one l) ?c1 ?c2 ?c3 ?_)
  case c1 => unfold maxLen; omega
  case c2 => omega
  intro v1 W3 hrow _ hbel
  replace hrow : RowS 3 W.heap.size 126 W3 v1 ((addN l c (ids.take 0)).map rc) := by simpa [addN] using hrow
  have hK3 : Keeps W W3 := Below.trans hB0.out hbel
  have hX3 := hX.out.kept hK3
  have hcnt3 := hcnt.out W3 ((hv.out.keeps hX.out.k).keeps hK3)
  replace hrow := Lib.hid hrow
  replace hK3 := Lib.hid hK3
  replace hX3 := Lib.hid hX3
  replace hcnt3 := Lib.hid hcnt3
  clear hcnt hsrc hB0 hbel z0 z2 hX
  go_wp2_with (refine loadL hX3.out.b rfl _ rfl rfl ?_)
  refine hcnt3.out.mono ?_
  rintro e W4 ⟨rfl, hK4⟩
  have hrow4 : RowS 3 W.heap.size 126 W4 v1 ((addN l c (ids.take 0)).map rc) := hrow.out.chg (S := fun _ => False) (Chg.of_keeps hK4) (fun _ _ h => h)
  have hB4 : Below W.heap.size W W4 := Keeps.trans hK3.out hK4
  have hX4 := hX3.out.kept hK4
  obtain ⟨CN, hCN⟩ : ∃ x, x = cnt3 l c := ⟨_, rfl⟩
  rw [← hCN] at hcn ⊢
  replace hrow4 := Lib.hid hrow4
  replace hB4 := Lib.hid hB4
  replace hX4 := Lib.hid hX4
  replace hCN := Lib.hid hCN
  clear hrow hK3 hX3 hK4 hcnt3
  go_wp2_with fail
  go_loopw [8, 9, 10] (fun y m i wr => ∃ k : Nat, k ≤ ids.length ∧ CN + k ≤ 64 ∧ i = .int .i64 (k : Int) ∧ m = .int .i64 ((CN : Int) + (k : Int)) ∧ RowS 3 W.heap.size 126 wr y ((addN l c (ids.take k)).map rc) ∧ Below W.heap.size W wr ∧ Box2 w B R n last (.slice p l.length cap) wr) (fun _ _ i _ => ids.length - (intOf i).toNat)
  case atStart => exact ⟨0, Nat.zero_le _, hcn, rfl, by go_num, hrow4.out, hB4.out, hX4.out⟩
  case round =>
    clear hrow4 hB4 hX4
    obtain ⟨k, hk, hck, rfl, rfl, hrow, hbe, hX⟩ := hrel
    obtain ⟨q1, cap1, rfl⟩ := hrow.any
    have hlen : ((addN l c (ids.take k)).map rc).length = l.length + k := by rw [List.length_map, addN_len l c k ids hk]
    rw [hlen] at hrow ⊢
    have z0 := hX.b.cell 0 (by simp [lsC])
    have z1 := hX.b.cell 1 (by simp [lsC])
    simp only [lsC, List.getElem_cons_zero, List.getElem_cons_succ] at z0 z1
    by_cases hlt : k < ids.length
    · have hltI := Int.ofNat_lt.2 hlt
      by_cases h64 : CN + k < 64
      · have h64I : (CN : Int) + (k : Int) < 64 := by omega
        have hsu := addN_succ l c k ids hlt
        obtain ⟨sb, soff, hs1, hs2⟩ : ∃ sb soff, q = some ⟨sb, soff, none⟩ ∧ wr.cell? ⟨sb, soff + k, none⟩ = some (.int .i64 ids[k]) := by
          have hzr : Ints wr (.slice q ids.length cap2) ids := Slc.below hu.out hX.k
          obtain ⟨q', c', hv', _, _, hcell⟩ := hzr.open
          obtain ⟨b, off, h1, h2⟩ := hcell k hlt
          simp only [Value.slice.injEq] at hv'
          exact ⟨b, off, by rw [hv'.1]; exact h1, h2⟩
        subst hs1
        generalize ids[k] = id at *
        have hsrc2 : SlcS 3 (wr.alloc (.cells (rc (c, id, 0)).toArray 126)) (.slice (some ⟨wr.heap.size, 0, none⟩) 1 1) ([((c, id, 0) : C3)].map rc) := slcs_one (Blk.new wr _ _) rfl
        have hrow2 := hrow.alloc (.cells (rc (c, id, 0)).toArray 126)
        have hB1 := Keeps.alloc wr (.cells (rc (c, id, 0)).toArray 126)
        have hsz := hbe.size
        replace hsrc2 := Lib.hid hsrc2
        replace hrow2 := Lib.hid hrow2
        replace hB1 := Lib.hid hB1
        replace hbe := Lib.hid hbe
        replace hX := Lib.hid hX
        replace hlen := Lib.hid hlen
        replace hsu := Lib.hid hsu
        clear hrow
        go_wp2_with (at_builtin; refine appN rfl _ _ 50 126 _ 3 24 rfl Tryd.underlying50 infoRC rfl (by decide) W.heap.size _ _ rfl hrow2.out _ _ rfl hsrc2.out (rc_one [((c, id, 0) : C3)]) ?d1 ?d2 ?d3 ?_)
        case d1 => have := hlen.out; rw [this]; simp; unfold maxLen; omega
        case d2 => have := hlen.out; rw [this]; simp; omega
        case d3 => (simp only [World.size_alloc]; omega)
        intro v2 W4 hrow _ hbel
        replace hrow : RowS 3 W.heap.size 126 W4 v2 ((addN l c (ids.take (k + 1))).map rc) := by rw [hsu.out, List.map_append]; exact hrow
        have hbe4 : Below W.heap.size wr W4 := Below.trans (Below.mono hB1.out hsz) hbel
        have hX4 : Box2 w B R n last (.slice p l.length cap) W4 := ⟨hX.out.b.below hbe4 hBl, hX.out.r.below hbe4 hRl, Below.trans hX.out.k (Below.mono hbe4 hwW), hX.out.new⟩
        have hbe5 : Below W.heap.size W W4 := Below.trans hbe.out hbe4
        replace hrow := Lib.hid hrow
        replace hbe5 := Lib.hid hbe5
        replace hX4 := Lib.hid hX4
        clear hbel hbe4 hbe hX hsrc2 hrow2 hB1
        go_wp2_with fail
        go_roundw
        case rel => exact ⟨k + 1, by omega, by omega, by go_num, by go_num, hrow.out, hbe5.out, hX4.out⟩
        case measure => (simp [intOf]; try omega)
      · have h64I : 64 ≤ (CN : Int) + (k : Int) := by omega
        have hfin := hX.fin (n2 := n) (last2 := last) (u := .slice q1 (l.length + k) cap1)
        have hfr := hrow.fresh hwW
        have hrf : Cs3 (wr.setRow R (lsC n last (.slice q1 (l.length + k) cap1)).toArray) (.slice q1 (l.length + k) cap1) (add3 l c ids) := by
          have h1 := hrow.chg (S := fun k => k = R) (Chg.setRow (lsC n last (.slice q1 (l.length + k) cap1)).toArray rfl) (fun b hb e => by omega)
          have h2 := h1.cs3
          unfold add3
          rw [← hCN.out, show 64 - CN = k by omega]
          exact h2
        have hif : er = 3 := by rw [her.out, ← hCN.out]; exact if_neg (by omega)
        replace hfin := Lib.hid hfin
        replace hrf := Lib.hid hrf
        replace hfr := Lib.hid hfr
        replace hX := Lib.hid hX
        replace hlen := Lib.hid hlen
        replace hbe := Lib.hid hbe
        replace hif := Lib.hid hif
        clear hrow
        go_wp2_with (refine storeL hX.out.r rfl rfl _ _ rfl rfl rfl rfl ?_)
        refine bodyPost_ret (results_row_slot rfl _ hfin.out.1 rfl _ Tryd.underlying52 rfl 3 size11 rfl) rfl ⟨_, by rw [hif.out]; rfl, hrf.out, hfr.out, hfin.out.2⟩
    · obtain rfl : k = ids.length := by omega
      have hfin := hX.fin (n2 := n) (last2 := last) (u := .slice q1 (l.length + ids.length) cap1)
      have hfr := hrow.fresh hwW
      have hrf : Cs3 (wr.setRow R (lsC n last (.slice q1 (l.length + ids.length) cap1)).toArray) (.slice q1 (l.length + ids.length) cap1) (add3 l c ids) := by
        have h1 := hrow.chg (S := fun k => k = R) (Chg.setRow (lsC n last (.slice q1 (l.length + ids.length) cap1)).toArray rfl) (fun b hb e => by omega)
        have h2 := h1.cs3
        unfold add3
        rw [← hCN.out, List.take_of_length_le (show ids.length ≤ 64 - CN by omega)]
        rw [List.take_of_length_le (Nat.le_refl _)] at h2
        exact h2
      have hif : er = 0 := by rw [her.out, ← hCN.out]; exact if_pos (by omega)
      replace hfin := Lib.hid hfin
      replace hrf := Lib.hid hrf
      replace hfr := Lib.hid hfr
      replace hX := Lib.hid hX
      replace hlen := Lib.hid hlen
      replace hbe := Lib.hid hbe
      replace hif := Lib.hid hif
      clear hrow
      go_wp2_with (refine storeL hX.out.r rfl rfl _ _ rfl rfl rfl rfl ?_)
      refine bodyPost_ret (results_row_slot rfl _ hfin.out.1 rfl _ Tryd.underlying52 rfl 3 size11 rfl) rfl ⟨_, by rw [hif.out]; rfl, hrf.out, hfr.out, hfin.out.2⟩
end Go.Proofs.YtefippjakkgjkaaDoor.K

/- The reference of calls: Close. -/
namespace Go.Proofs.YtefippjakkgjkaaDoor.K
open Go.RowKit

theorem _root_.Go.Proofs.YtefippjakkgjkaaDoor.RowS.setCell {sz base : Nat} {e : TypeId} {w : World} {g n cap : Nat} {els : List (List Value)} (h : RowS sz base e w (.slice (some ⟨g, 0, none⟩) n cap) els) (i j : Nat) (hi : i < els.length) (hj : j < sz) (u : Value) :
    RowS sz base e (w.setCell ⟨g, i * sz + j, none⟩ u) (.slice (some ⟨g, 0, none⟩) n cap) (els.set i ((els.getD i []).set j u)) := by
  obtain ⟨⟨hl, h⟩, hs⟩ := h
  rcases h with ⟨h, _⟩ | ⟨g', cap', cur, h, hb, hg, hn, hm, hc, ht⟩
  · cases h
  · simp only [Value.slice.injEq, Option.some.injEq, Addr.mk.injEq] at h
    obtain ⟨⟨rfl, _⟩, rfl, rfl⟩ := h
    have hB : Blk w g e cur.toList := hg
    have hB2 := hB.set (i * sz + j) u
    refine ⟨⟨?_, .inr ⟨g, cap, (cur.toList.set (i * sz + j) u).toArray, by simp, hb, hB2, by simpa using hn, hm, by simp [hc], ?_⟩⟩, ?_⟩
    · rw [← flat_set hs i j u hi hj, List.length_set, hl]; simp
    · rw [List.length_set, List.take_set, ht, flat_set hs i j u hi hj]
    · intro el hel
      rcases List.mem_or_eq_of_mem_set hel with h' | rfl
      · exact hs el h'
      · rw [List.length_set, List.getD, List.getElem?_eq_getElem hi]; exact hs _ (List.getElem_mem hi)
theorem _root_.Go.Proofs.YtefippjakkgjkaaDoor.RowS.frozen {sz base : Nat} {e : TypeId} {w : World} {g n cap : Nat} {els : List (List Value)} (h : RowS sz base e w (.slice (some ⟨g, 0, none⟩) n cap) els) (k : Nat) : w.frozen? ⟨g, k, none⟩ = false := by
  rcases h.1.2 with ⟨h, _⟩ | ⟨g', cap', cur, h, hb, hg, _⟩
  · cases h
  · simp only [Value.slice.injEq, Option.some.injEq, Addr.mk.injEq] at h
    obtain ⟨⟨rfl, _⟩, rfl, rfl⟩ := h
    exact Blk.frozen (cs := cur.toList) hg k
theorem _root_.Go.Proofs.YtefippjakkgjkaaDoor.RowS.cells {sz base : Nat} {e : TypeId} {w : World} {g n cap : Nat} {els : List (List Value)} (h : RowS sz base e w (.slice (some ⟨g, 0, none⟩) n cap) els) (i j : Nat) (hi : i < els.length) (hj : j < sz) : w.cell? ⟨g, i * sz + j, none⟩ = some ((els.getD i []).getD j undef) := by
  obtain ⟨q, cp, hv, _, _, hc⟩ := SlcS.get h.slcs
  obtain ⟨b, off, hq, hc⟩ := hc i hi
  simp only [Value.slice.injEq] at hv
  obtain ⟨h1, _, _⟩ := hv
  rw [hq] at h1
  simp only [Option.some.injEq, Addr.mk.injEq] at h1
  obtain ⟨rfl, rfl, _⟩ := h1
  have := hc j hj
  rwa [Nat.zero_add] at this
theorem Box2.setOut {w W : World} {B R n : Nat} {last : Int} {v : Value} (h : Box2 w B R n last v W) (g k : Nat) (u : Value) (hB : B ≠ g) (hR : R ≠ g) (hg : w.heap.size ≤ g) : Box2 w B R n last v (W.setCell ⟨g, k, none⟩ u) :=
  ⟨h.b.other hB k u, h.r.other hR k u, Chg.keeps (S := fun x => x = g) (Chg.setCell k u rfl) h.k (fun x hx e => by omega), h.new⟩
def clo3 (g : Int) (x : C3) : C3 := if x.2.2 = 0 then (x.1, x.2.1, g) else x
def close3 (g : Int) (l : List C3) : List C3 := l.map (clo3 g)
def closeTo (g : Int) (l : List C3) (k : Nat) : List C3 := (l.take k).map (clo3 g) ++ l.drop k
theorem closeTo_len (g : Int) (l : List C3) (k : Nat) : (closeTo g l k).length = l.length := by
  unfold closeTo
  rw [List.length_append, List.length_map, List.length_take, List.length_drop]; omega
theorem closeTo_zero (g : Int) (l : List C3) : closeTo g l 0 = l := by simp [closeTo]
theorem closeTo_all (g : Int) (l : List C3) : closeTo g l l.length = close3 g l := by simp [closeTo, close3]
theorem closeTo_at (g : Int) (l : List C3) (k : Nat) (h : k < l.length) : (closeTo g l k)[k]? = some l[k] := by
  unfold closeTo
  rw [List.getElem?_append_right (by simp; omega)]
  simp [Nat.min_eq_left (Nat.le_of_lt h), h]
theorem closeTo_succ (g : Int) (l : List C3) (k : Nat) (h : k < l.length) : closeTo g l (k + 1) = (closeTo g l k).set k (clo3 g l[k]) := by
  unfold closeTo
  rw [List.take_succ_eq_append_getElem h, List.map_append, List.set_append_right _ _ (by simp; omega), List.append_assoc]
  congr 1
  rw [List.length_map, List.length_take, Nat.min_eq_left (Nat.le_of_lt h), Nat.sub_self, List.drop_eq_getElem_cons h]
  rfl
theorem closeTo_row (g : Int) (l : List C3) (k : Nat) (h : k < l.length) (h0 : l[k].2.2 = 0) :
    ((closeTo g l k).map rc).set k ((((closeTo g l k).map rc).getD k []).set 2 (.int .i64 g)) = (closeTo g l (k + 1)).map rc := by
  rw [closeTo_succ g l k h, List.map_set]
  congr 1
  rw [List.getD, List.getElem?_map, closeTo_at g l k h]
  simp [clo3, h0, rc]
theorem closeTo_cell (g : Int) (l : List C3) (k : Nat) (h : k < l.length) : (((closeTo g l k).map rc).getD k []).getD 2 undef = .int .i64 l[k].2.2 := by
  rw [show ((closeTo g l k).map rc).getD k [] = rc l[k] by rw [List.getD, List.getElem?_map, closeTo_at g l k h]; rfl]
  rfl
theorem closeTo_same (g : Int) (l : List C3) (k : Nat) (h : k < l.length) (h0 : l[k].2.2 ≠ 0) : closeTo g l (k + 1) = closeTo g l k := by
  rw [closeTo_succ g l k h]
  apply List.ext_getElem?
  intro i
  rw [List.getElem?_set]
  by_cases e : k = i
  · subst e
    rw [if_pos rfl, closeTo_len, if_pos h, closeTo_at g l k h]
    simp [clo3, h0]
  · rw [if_neg e]
set_option maxRecDepth 100000 in
set_option maxHeartbeats 1000000 in
theorem r11Close_no (n : Nat) (last : Int) (v : Value) (l : List C3) (g : Int) (w : World) (hv : Cs3 w v l) (h : g < 1 ∨ g < last) :
    Calls Tryd.prog 56 #[ls3 n last v, .int .i64 g] w fun e w' => e = .returned (.tuple #[ls3 n last v, .int .i64 0]) ∧ Keeps w w' := by
  obtain ⟨p, cap, rfl, hl, hc, _⟩ := hv.get
  have hcase : g < 1 ∨ (¬ g < 1 ∧ g < last) := by omega
  unfold ls3
  clear h hv
  go_enter Tryd.func56, Tryd.ntmps56
  go_upto_region 1 with (fail)
  obtain ⟨B, hB⟩ : ∃ B, B = w.heap.size := ⟨_, rfl⟩
  obtain ⟨R, hR⟩ : ∃ R, R = w.heap.size + 1 := ⟨_, rfl⟩
  refine wp_gen (fun W => Box2 w B R n last (.slice p l.length cap) W) (Box2.start hB hR) ?_
  rw [← hR, ← hB]
  clear hB hR
  rintro W hX
  have z1 := hX.b.cell 1 (by simp [lsC])
  simp only [lsC, List.getElem_cons_zero, List.getElem_cons_succ] at z1
  replace hX := Lib.hid hX
  rcases hcase with h1 | ⟨h1, h2⟩
  all_goals
    go_wp2_with (first | (refine loadL hX.out.b rfl _ rfl rfl ?_) | (refine storeL hX.out.r rfl rfl _ _ rfl rfl rfl rfl ?_))
    refine bodyPost_ret (results_row_slot rfl _ hX.out.fin.1 rfl _ Tryd.underlying52 rfl 3 size11 rfl) rfl ⟨rfl, hX.out.fin.2⟩
set_option maxRecDepth 100000 in
set_option maxHeartbeats 2000000 in
theorem r11Close_yes (n : Nat) (last : Int) (v : Value) (l : List C3) (g : Int) (w : World) (hv : Cs3 w v l) (h1 : 1 ≤ g) (h2 : last ≤ g) (hl1 : l.length ≤ 100000) :
    Calls Tryd.prog 56 #[ls3 n last v, .int .i64 g] w fun e w' => ∃ v', e = .returned (.tuple #[ls3 n g v', .int .i64 (open3 l : Int)]) ∧ Cs3 w' v' (close3 g l) ∧ FreshV w v' ∧ Keeps w w' := by
  obtain ⟨p, cap, rfl, hl, hc1, _⟩ := hv.get
  have hI1 : ¬ g < 1 := by omega
  have hI2 : ¬ g < last := by omega
  have hlI : (0 : Int) ≤ (l.length : Int) := by omega
  replace hv := Lib.hid hv
  unfold ls3
  obtain ⟨er, her⟩ : ∃ x, x = open3 l := ⟨_, rfl⟩
  rw [← her]
  replace her := Lib.hid her
  clear h1 h2
  go_enter Tryd.func56, Tryd.ntmps56
  go_upto_region 1 with (fail)
  obtain ⟨B, hB⟩ : ∃ B, B = w.heap.size := ⟨_, rfl⟩
  obtain ⟨R, hR⟩ : ∃ R, R = w.heap.size + 1 := ⟨_, rfl⟩
  refine wp_gen (fun W => Box2 w B R n last (.slice p l.length cap) W) (Box2.start hB hR) ?_
  rw [← hR, ← hB]
  clear hB hR
  rintro W hX
  have z1 := hX.b.cell 1 (by simp [lsC])
  have z2 := hX.b.cell 2 (by simp [lsC])
  simp only [lsC, List.getElem_cons_zero, List.getElem_cons_succ] at z1 z2
  have hBl := hX.b.lt
  have hRl := hX.r.lt
  have hwW : w.heap.size ≤ W.heap.size := hX.k.size
  have hB0 := Keeps.alloc W (.cells #[] 126)
  have hsrc := (hv.out.keeps hX.k).keeps hB0
  replace hX := Lib.hid hX
  replace hB0 := Lib.hid hB0
  replace hsrc := Lib.hid hsrc
  go_wp2_with (at_builtin; refine appN rfl _ _ 50 126 _ 3 24 rfl Tryd.underlying50 infoRC rfl (by decide) W.heap.size _ [] rfl (RowS.empty 3 _ _ W (Nat.le_refl _)) _ (l.map rc) rfl hsrc.out (rc_one l) ?c1 ?c2 ?c3 ?_)
  case c1 => unfold maxLen; omega
  case c2 => omega
  intro v1 W3 hrow _ hbel
  replace hrow : RowS 3 W.heap.size 126 W3 v1 ((closeTo g l 0).map rc) := by rw [closeTo_zero]; simpa using hrow
  have hK3 : Keeps W W3 := Below.trans hB0.out hbel
  have hX3 := hX.out.kept hK3
  obtain ⟨q1, cap1, rfl⟩ := hrow.any
  rw [show ((closeTo g l 0).map rc).length = l.length by rw [List.length_map, closeTo_len]] at *
  replace hrow := Lib.hid hrow
  replace hX3 := Lib.hid hX3
  clear hsrc hB0 hbel z1 z2 hX hK3
  go_wp2_with fail
  go_loopw [7, 8] (fun m i wr => ∃ k : Nat, k ≤ l.length ∧ i = .int .i64 (k : Int) ∧ (∃ N : Nat, m = .int .i64 (N : Int) ∧ N = open3 (l.take k)) ∧ RowS 3 W.heap.size 126 wr (.slice q1 l.length cap1) ((closeTo g l k).map rc) ∧ Box2 w B R n last (.slice p l.length cap) wr) (fun _ i _ => l.length - (intOf i).toNat)
  case atStart => exact ⟨0, Nat.zero_le _, rfl, ⟨0, rfl, rfl⟩, hrow.out, hX3.out⟩
  case round =>
    clear hrow hX3
    obtain ⟨k, hk, rfl, ⟨N, rfl, hN⟩, hrow, hX⟩ := hrel
    have hlen : ((closeTo g l k).map rc).length = l.length := by rw [List.length_map, closeTo_len]
    by_cases hlt : k < l.length
    · have hltI := Int.ofNat_lt.2 hlt
      obtain ⟨g1, cp, hv1, hg1⟩ := hrow.slice (by omega)
      rw [hlen] at hv1
      simp only [Value.slice.injEq] at hv1
      obtain ⟨rfl, _, rfl⟩ := hv1
      have y2 := hrow.cells k 2 (by omega) (by decide)
      rw [closeTo_cell g l k hlt] at y2
      have f2 := hrow.frozen (k * 3 + 2)
      have hs := open3_succ l k hlt
      have hcl := open3_le (l.take k)
      rw [List.length_take] at hcl
      rw [← hN] at hs hcl
      have hc2 : (N : Int) ≤ (k : Int) := by omega
      have hc0 : (0 : Int) ≤ (N : Int) := by omega
      clear hcl
      replace hN := Lib.hid hN
      replace hlen := Lib.hid hlen
      by_cases e : l[k].2.2 = 0
      · rw [if_pos e] at hs
        have hrow2 := hrow.setCell k 2 (by rw [hlen.out]; exact hlt) (by decide) (.int .i64 g)
        rw [closeTo_row g l k hlt e] at hrow2
        have hX2 := hX.setOut g1 (k * 3 + 2) (.int .i64 g) (by omega) (by omega) (by omega)
        rw [e] at y2
        replace e := Lib.hid e
        replace hs := Lib.hid hs
        replace hrow2 := Lib.hid hrow2
        replace hX2 := Lib.hid hX2
        clear hrow hX
        go_wp2_with fail
        go_roundw
        case rel => exact ⟨k + 1, by omega, by go_num, ⟨N + 1, by go_num, hs.out.symm⟩, hrow2.out, hX2.out⟩
        case measure => (simp [intOf]; try omega)
      · have e1 : (l[k].2.2 == 0) = false := by simpa using e
        rw [if_neg e] at hs
        have hrow2 := hrow
        rw [← closeTo_same g l k hlt e] at hrow2
        generalize l[k].2.2 = x at *
        replace e := Lib.hid e
        replace hs := Lib.hid hs
        replace hrow2 := Lib.hid hrow2
        replace hX := Lib.hid hX
        clear hrow
        go_wp2_with fail
        go_roundw
        case rel => exact ⟨k + 1, by omega, by go_num, ⟨N, rfl, hs.out.symm⟩, hrow2.out, hX.out⟩
        case measure => (simp [intOf]; try omega)
    · obtain rfl : k = l.length := by omega
      rw [List.take_length, ← her.out] at hN
      rw [closeTo_all] at hrow
      have hfin := hX.fin (n2 := n) (last2 := g) (u := .slice q1 l.length cap1)
      have hfr := hrow.fresh hwW
      have hrf : Cs3 (wr.setRow R (lsC n g (.slice q1 l.length cap1)).toArray) (.slice q1 l.length cap1) (close3 g l) :=
        (hrow.chg (S := fun k => k = R) (Chg.setRow (lsC n g (.slice q1 l.length cap1)).toArray rfl) (fun b hb e => by omega)).cs3
      have z0 := hX.b.cell 0 (by simp [lsC])
      simp only [lsC, List.getElem_cons_zero] at z0
      replace hN := Lib.hid hN
      replace hlen := Lib.hid hlen
      replace hfin := Lib.hid hfin
      replace hrf := Lib.hid hrf
      replace hfr := Lib.hid hfr
      replace hX := Lib.hid hX
      clear hrow
      go_wp2_with (refine storeL hX.out.r rfl rfl _ _ rfl rfl rfl rfl ?_)
      refine bodyPost_ret (results_row_slot rfl _ hfin.out.1 rfl _ Tryd.underlying52 rfl 3 size11 rfl) rfl ⟨_, by rw [← hN.out]; rfl, hrf.out, hfr.out, hfin.out.2⟩
end Go.Proofs.YtefippjakkgjkaaDoor.K

/- The reference of calls: Done. -/
namespace Go.Proofs.YtefippjakkgjkaaDoor.K
open Go.RowKit

/-- Told by Done: of CPU c. -/
def dn3 (g : Int) (c : Nat) (x : C3) : Bool := x.1 == c && (decide (0 < x.2.2) && decide (x.2.2 ≤ g))
def tellC (g : Int) (l : List C3) (c : Nat) : List Int := (l.filter (dn3 g c)).map (·.2.1)
def tell3 (g : Int) (l : List C3) (n : Nat) : List Int := ((List.range n).map (tellC g l)).flatten
def lf3 (g : Int) (x : C3) : Bool := decide (x.2.2 = 0) || decide (g < x.2.2)
def left3 (g : Int) (l : List C3) : List C3 := l.filter (lf3 g)
theorem tellC_succ (g : Int) (l : List C3) (c k : Nat) (h : k < l.length) : tellC g (l.take (k + 1)) c = tellC g (l.take k) c ++ if dn3 g c l[k] then [l[k].2.1] else [] := by
  unfold tellC
  rw [List.take_succ_eq_append_getElem h, List.filter_append, List.map_append]
  congr 1
  by_cases e : dn3 g c l[k] = true <;> simp [e]
theorem tell3_succ (g : Int) (l : List C3) (n : Nat) : tell3 g l (n + 1) = tell3 g l n ++ tellC g l n := by
  unfold tell3
  rw [List.range_succ, List.map_append, List.flatten_append]; simp
theorem left3_succ (g : Int) (l : List C3) (k : Nat) (h : k < l.length) : left3 g (l.take (k + 1)) = left3 g (l.take k) ++ if lf3 g l[k] then [l[k]] else [] := by
  unfold left3
  rw [List.take_succ_eq_append_getElem h, List.filter_append]
  congr 1
  by_cases e : lf3 g l[k] = true <;> simp [e]
theorem tellC_len (g : Int) (l : List C3) (c : Nat) : (tellC g l c).length ≤ l.length := by
  unfold tellC; rw [List.length_map]; exact List.length_filter_le _ _
theorem tell3_len (g : Int) (l : List C3) (hl : l.length ≤ 100000) : ∀ n, (tell3 g l n).length ≤ n * 100000
  | 0 => by simp [tell3]
  | n + 1 => by
    have h1 := tell3_len g l hl n
    have h2 := tellC_len g l n
    rw [tell3_succ, List.length_append]; omega
theorem left3_len (g : Int) (l : List C3) : (left3 g l).length ≤ l.length := List.length_filter_le _ _
theorem infoI11 : (Tryd.prog.info? 3).map (fun i => (i.zero, i.size, i.bytes)) = some (some (.int .i64 0), 1, 8) := by kernel_rfl
theorem ownsRow_any {W : World} {base sz : Nat} {e : TypeId} {v : Value} {n : Nat} {xs : List Value} (h : W.ownsRow base e sz v n xs) : ∃ q cap, v = .slice q n cap := by
  rcases h.2 with ⟨h, h0⟩ | ⟨g, cap, cur, h, _⟩
  · exact ⟨none, 0, by rw [h, h0]⟩
  · exact ⟨_, cap, h⟩
set_option maxRecDepth 100000 in
set_option maxHeartbeats 4000000 in
theorem r11Done_any (n : Nat) (last : Int) (v : Value) (l : List C3) (g : Int) (w : World) (hv : Cs3 w v l) (hl1 : l.length ≤ 100000) (hn : n ≤ 64) :
    Calls Tryd.prog 54 #[ls3 n last v, .int .i64 g] w fun e w' => ∃ v' y, e = .returned (.tuple #[ls3 n last v', y]) ∧ Cs3 w' v' (left3 g l) ∧ Ints w' y (tell3 g l n) ∧ FreshV w v' ∧ FreshV w y ∧ Keeps w w' := by
  obtain ⟨p, cap, rfl, hl, hc1, _⟩ := hv.get
  have hlI : (0 : Int) ≤ (l.length : Int) := by omega
  have hnI : (0 : Int) ≤ (n : Int) := by omega
  have hnI2 : (n : Int) ≤ 64 := by omega
  replace hv := Lib.hid hv
  unfold ls3
  go_enter Tryd.func54, Tryd.ntmps54
  go_upto_region 1 with (fail)
  obtain ⟨B, hB⟩ : ∃ B, B = w.heap.size := ⟨_, rfl⟩
  obtain ⟨R, hR⟩ : ∃ R, R = w.heap.size + 1 := ⟨_, rfl⟩
  refine wp_gen (fun W => Box2 w B R n last (.slice p l.length cap) W) (Box2.start hB hR) ?_
  rw [← hR, ← hB]
  clear hB hR
  rintro W hX
  have hBl := hX.b.lt
  have hRl := hX.r.lt
  have hwW : w.heap.size ≤ W.heap.size := hX.k.size
  replace hX := Lib.hid hX
  go_wp2_with fail
  go_loopw [6, 7] (fun y c wr => ∃ k : Nat, k ≤ n ∧ c = .int .i64 (k : Int) ∧ wr.ownsRow W.heap.size 3 1 y (tell3 g l k).length ((tell3 g l k).map (Value.int .i64)) ∧ Below W.heap.size W wr ∧ Box2 w B R n last (.slice p l.length cap) wr) (fun _ c _ => n - (intOf c).toNat)
  case atStart => exact ⟨0, Nat.zero_le _, rfl, ⟨by simp [tell3], .inl ⟨rfl, rfl⟩⟩, Below.refl _ _, hX.out⟩
  case round =>
    clear hX
    obtain ⟨k, hk, rfl, hrow, hbe, hX⟩ := hrel
    obtain ⟨wo, rfl⟩ : ∃ wo : World, wo = wr := ⟨_, rfl⟩
    have z0 := hX.b.cell 0 (by simp [lsC])
    simp only [lsC, List.getElem_cons_zero] at z0
    by_cases hlt : k < n
    · have hltI := Int.ofNat_lt.2 hlt
      replace hrow : wo.ownsRow W.heap.size 3 1 u6 (tell3 g l k ++ tellC g (l.take 0) k).length ((tell3 g l k ++ tellC g (l.take 0) k).map (Value.int .i64)) := by simpa [tellC] using hrow
      replace hrow := Lib.hid hrow
      replace hbe := Lib.hid hbe
      replace hX := Lib.hid hX
      go_wp2_with fail
      go_loopw [6, 8] (fun y i wr => ∃ j : Nat, j ≤ l.length ∧ i = .int .i64 (j : Int) ∧ wr.ownsRow W.heap.size 3 1 y (tell3 g l k ++ tellC g (l.take j) k).length ((tell3 g l k ++ tellC g (l.take j) k).map (Value.int .i64)) ∧ Below W.heap.size W wr ∧ Box2 w B R n last (.slice p l.length cap) wr) (fun _ i _ => l.length - (intOf i).toNat)
      case atStart => exact ⟨0, Nat.zero_le _, rfl, hrow.out, hbe.out, hX.out⟩
      case round =>
        clear hrow hbe hX z0
        obtain ⟨j, hj, rfl, hrow, hbe, hX⟩ := hrel
        have z2 := hX.b.cell 2 (by simp [lsC])
        simp only [lsC, List.getElem_cons_zero, List.getElem_cons_succ] at z2
        by_cases hjl : j < l.length
        · have hjlI := Int.ofNat_lt.2 hjl
          obtain ⟨_, _, hq, _, _, hcell⟩ := (hv.out.keeps hX.k).get
          obtain ⟨b, off, hp, y0, y1, y2⟩ := hcell j hjl
          simp only [Value.slice.injEq] at hq
          obtain rfl : p = some ⟨b, off, none⟩ := hq.1.trans hp
          clear hq hp hcell
          have hs := tellC_succ g l k j hjl
          have hb1 := tell3_len g l hl1 k
          have hb2 := tellC_len g (l.take j) k
          rw [List.length_take] at hb2
          unfold dn3 at hs
          generalize l[j].1 = x0 at *
          generalize l[j].2.1 = x1 at *
          generalize l[j].2.2 = x2 at *
          have hsz := hbe.size
          by_cases e0 : x0 = k
          · by_cases e1 : 0 < x2
            · by_cases e2 : x2 ≤ g
              · have hs2 : tellC g (l.take (j + 1)) k = tellC g (l.take j) k ++ [x1] := by rw [hs]; simp [e0, e1, e2]
                have e0' : k = x0 := e0.symm
                clear e0
                subst e0'
                generalize hTT : tell3 g l k ++ tellC g (l.take j) k = TT at *
                have hTl : TT.length ≤ 64 * 100000 + 100000 := by rw [← hTT, List.length_append]; omega
                have hT2 : tell3 g l k ++ tellC g (l.take (j + 1)) k = TT ++ [x1] := by rw [hs2, ← hTT, List.append_assoc]
                replace hTT := Lib.hid hTT
                replace hT2 := Lib.hid hT2
                replace hs2 := Lib.hid hs2
                replace hs := Lib.hid hs
                replace hX := Lib.hid hX
                replace hbe := Lib.hid hbe
                clear hb1 hb2
                go_wp2_with (at_builtin; refine app1 rfl _ _ 38 3 (.int .i64 0) 8 rfl Tryd.underlying38 infoI11 rfl W.heap.size _ _ _ rfl hrow _ rfl rfl (by unfold maxLen; omega) (by omega) hsz ?_; intro gq capq w1 hown' hgrow hbel)
                have hrow2 : w1.ownsRow W.heap.size 3 1 (.slice (some ⟨gq, 0, none⟩) (TT.length + 1) capq) (tell3 g l k ++ tellC g (l.take (j + 1)) k).length ((tell3 g l k ++ tellC g (l.take (j + 1)) k).map (Value.int .i64)) := by rw [hT2.out]; simpa using hown'
                have hX2 : Box2 w B R n last (.slice (some ⟨b, off, none⟩) l.length cap) w1 := ⟨hX.out.b.below hbel hBl, hX.out.r.below hbel hRl, Below.trans hX.out.k (Below.mono hbel hwW), hX.out.new⟩
                have hbe2 := Below.trans hbe.out hbel
                replace hrow2 := Lib.hid hrow2
                replace hX2 := Lib.hid hX2
                replace hbe2 := Lib.hid hbe2
                clear hown' hgrow hbel hrow hX hbe
                go_wp2_with fail
                go_roundw
                case rel => exact ⟨j + 1, by omega, by go_num, hrow2.out, hbe2.out, hX2.out⟩
                case measure => (simp [intOf]; try omega)
              · skip
                have hs2 : tellC g (l.take (j + 1)) k = tellC g (l.take j) k := by rw [hs]; simp [e0, e1, e2]
                have hrow2 := hrow
                rw [← hs2] at hrow2
                have e0' : k = x0 := e0.symm
                clear e0
                subst e0'
                replace hrow2 := Lib.hid hrow2
                replace hs2 := Lib.hid hs2
                replace hs := Lib.hid hs
                replace hX := Lib.hid hX
                replace hbe := Lib.hid hbe
                clear hb1 hb2 hrow
                go_wp2_with fail
                go_roundw
                case rel => exact ⟨j + 1, by omega, by go_num, hrow2.out, hbe.out, hX.out⟩
                case measure => (simp [intOf]; try omega)
            · skip
              have hs2 : tellC g (l.take (j + 1)) k = tellC g (l.take j) k := by rw [hs]; simp [e0, e1]
              have hrow2 := hrow
              rw [← hs2] at hrow2
              have e0' : k = x0 := e0.symm
              clear e0
              subst e0'
              replace hrow2 := Lib.hid hrow2
              replace hs2 := Lib.hid hs2
              replace hs := Lib.hid hs
              replace hX := Lib.hid hX
              replace hbe := Lib.hid hbe
              clear hb1 hb2 hrow
              go_wp2_with fail
              go_roundw
              case rel => exact ⟨j + 1, by omega, by go_num, hrow2.out, hbe.out, hX.out⟩
              case measure => (simp [intOf]; try omega)
          · skip
            have hs2 : tellC g (l.take (j + 1)) k = tellC g (l.take j) k := by rw [hs]; simp [e0]
            have hrow2 := hrow
            rw [← hs2] at hrow2
            have t0 : (x0 == k) = false := by simpa using e0
            have t1 : decide (x0 = k) = false := by simpa using e0
            have t2 : ((x0 : Int) == (k : Int)) = false := by rw [beq_eq_false_iff_ne]; omega
            replace hrow2 := Lib.hid hrow2
            replace hs2 := Lib.hid hs2
            replace hs := Lib.hid hs
            replace hX := Lib.hid hX
            replace hbe := Lib.hid hbe
            clear hb1 hb2 hrow
            go_wp2_with fail
            go_roundw
            case rel => exact ⟨j + 1, by omega, by go_num, hrow2.out, hbe.out, hX.out⟩
            case measure => (simp [intOf]; try omega)
        · obtain rfl : j = l.length := by omega
          have hts := tell3_succ g l k
          rw [List.take_length, ← hts] at hrow
          replace hrow := Lib.hid hrow
          replace hX := Lib.hid hX
          replace hbe := Lib.hid hbe
          replace hts := Lib.hid hts
          go_wp2_with fail
          go_roundw
          case rel => exact ⟨k + 1, by omega, by go_num, hrow.out, hbe.out, hX.out⟩
          case measure => (simp [intOf]; try omega)
    · obtain rfl : k = n := by omega
      have hltI : ¬ (k : Int) < (k : Int) := by omega
      obtain ⟨q6, cap6, rfl⟩ := ownsRow_any hrow
      have hint : Ints wo (.slice q6 (tell3 g l k).length cap6) (tell3 g l k) := slc_of_row hrow
      have hown := row_own hrow
      have hsz := hbe.size
      replace hint := Lib.hid hint
      replace hown := Lib.hid hown
      replace hX := Lib.hid hX
      clear hrow hbe
      go_wp2_with fail
      go_loopw [9, 10] (fun y i wr => ∃ j : Nat, j ≤ l.length ∧ i = .int .i64 (j : Int) ∧ RowS 3 wo.heap.size 126 wr y ((left3 g (l.take j)).map rc) ∧ Below wo.heap.size wo wr ∧ Box2 w B R k last (.slice p l.length cap) wr) (fun _ i _ => l.length - (intOf i).toNat)
      case atStart => exact ⟨0, Nat.zero_le _, rfl, RowS.nil _ _ _ _, Below.refl _ _, hX.out⟩
      case round =>
        clear hX z0
        obtain ⟨j, hj, rfl, hrow, hbe, hX⟩ := hrel
        have z0 := hX.b.cell 0 (by simp [lsC])
        have z1 := hX.b.cell 1 (by simp [lsC])
        have z2 := hX.b.cell 2 (by simp [lsC])
        simp only [lsC, List.getElem_cons_zero, List.getElem_cons_succ] at z0 z1 z2
        obtain ⟨q1, cap1, rfl⟩ := hrow.any
        have hlen : ((left3 g (l.take j)).map rc).length = (left3 g (l.take j)).length := List.length_map _
        have hll := left3_len g (l.take j)
        rw [List.length_take] at hll
        rw [hlen] at hrow ⊢
        by_cases hjl : j < l.length
        · have hjlI := Int.ofNat_lt.2 hjl
          obtain ⟨_, _, hq, _, _, hcell⟩ := (hv.out.keeps hX.k).get
          obtain ⟨b, off, hp, y0, y1, y2⟩ := hcell j hjl
          simp only [Value.slice.injEq] at hq
          obtain rfl : p = some ⟨b, off, none⟩ := hq.1.trans hp
          clear hq hp hcell
          have hs := left3_succ g l j hjl
          unfold lf3 at hs
          generalize l[j] = x at *
          obtain ⟨x0, x1, x2⟩ := x
          simp only at y0 y1 y2 hs
          by_cases ht : x2 = 0 ∨ g < x2
          · have hs2 : left3 g (l.take (j + 1)) = left3 g (l.take j) ++ [(x0, x1, x2)] := by
              rw [hs]; congr 1
              rw [if_pos (by simpa using ht)]
            have ht2 : (x2 = 0) ∨ (x2 ≠ 0 ∧ g < x2) := by omega
            clear hs ht
            have hsrc2 : SlcS 3 (wr.alloc (.cells (rc (x0, x1, x2)).toArray 126)) (.slice (some ⟨wr.heap.size, 0, none⟩) 1 1) ([((x0, x1, x2) : C3)].map rc) := slcs_one (Blk.new wr _ _) rfl
            have hrow2 := hrow.alloc (.cells (rc (x0, x1, x2)).toArray 126)
            have hB1 := Keeps.alloc wr (.cells (rc (x0, x1, x2)).toArray 126)
            have hsz2 := hbe.size
            obtain ⟨NL, hNL⟩ : ∃ x, x = (left3 g (l.take j)).length := ⟨_, rfl⟩
            rw [← hNL] at hlen hrow2 hll ⊢
            replace hsrc2 := Lib.hid hsrc2
            replace hrow2 := Lib.hid hrow2
            replace hB1 := Lib.hid hB1
            replace hbe := Lib.hid hbe
            replace hX := Lib.hid hX
            replace hlen := Lib.hid hlen
            replace hs2 := Lib.hid hs2
            replace hNL := Lib.hid hNL
            clear hrow
            have key : ∀ v2 W4, RowS 3 wo.heap.size 126 W4 v2 ((left3 g (l.take j)).map rc ++ [((x0, x1, x2) : C3)].map rc) → Below wo.heap.size (wr.alloc (.cells (rc (x0, x1, x2)).toArray 126)) W4 →
                RowS 3 wo.heap.size 126 W4 v2 ((left3 g (l.take (j + 1))).map rc) ∧ Below wo.heap.size wo W4 ∧ Box2 w B R k last (.slice (some ⟨b, off, none⟩) l.length cap) W4 := fun v2 W4 h1 h2 => by
              have hbe4 : Below wo.heap.size wr W4 := Below.trans (Below.mono hB1.out hsz2) h2
              refine ⟨by rw [hs2.out, List.map_append]; exact h1, Below.trans hbe.out hbe4, ⟨hX.out.b.below hbe4 (by omega), hX.out.r.below hbe4 (by omega), Below.trans hX.out.k (Below.mono hbe4 (by omega)), hX.out.new⟩⟩
            replace key := Lib.hid key
            rcases ht2 with rfl | ⟨e1, e2⟩
            · go_wp2_with (at_builtin; refine appN rfl _ _ 50 126 _ 3 24 rfl Tryd.underlying50 infoRC rfl (by decide) wo.heap.size _ _ rfl hrow2.out _ _ rfl hsrc2.out (rc_one [((x0, x1, 0) : C3)]) ?d1 ?d2 ?d3 ?_)
              case d1 => have := hlen.out; rw [this]; simp; unfold maxLen; omega
              case d2 => have := hlen.out; rw [this]; simp; omega
              case d3 => (simp only [World.size_alloc]; omega)
              intro v2 W4 hrow3 _ hbel
              have hkk := Lib.hid (key.out v2 W4 hrow3 hbel)
              clear hrow3 hbel
              go_wp2_with fail
              go_roundw
              case rel => exact ⟨j + 1, by omega, by go_num, hkk.out.1, hkk.out.2.1, hkk.out.2.2⟩
              case measure => (simp [intOf]; try omega)
            · have e3 : (x2 == 0) = false := by simpa using e1
              replace e1 := Lib.hid e1
              go_wp2_with (at_builtin; refine appN rfl _ _ 50 126 _ 3 24 rfl Tryd.underlying50 infoRC rfl (by decide) wo.heap.size _ _ rfl hrow2.out _ _ rfl hsrc2.out (rc_one [((x0, x1, x2) : C3)]) ?f1 ?f2 ?f3 ?_)
              case f1 => have := hlen.out; rw [this]; simp; unfold maxLen; omega
              case f2 => have := hlen.out; rw [this]; simp; omega
              case f3 => (simp only [World.size_alloc]; omega)
              intro v2 W4 hrow3 _ hbel
              have hkk := Lib.hid (key.out v2 W4 hrow3 hbel)
              clear hrow3 hbel
              go_wp2_with fail
              go_roundw
              case rel => exact ⟨j + 1, by omega, by go_num, hkk.out.1, hkk.out.2.1, hkk.out.2.2⟩
              case measure => (simp [intOf]; try omega)
          · have hs2 : left3 g (l.take (j + 1)) = left3 g (l.take j) := by
              rw [hs, if_neg (by simpa using ht), List.append_nil]
            generalize (left3 g (l.take j)).length = NL at hrow hlen hll ⊢
            have hrow2 := hrow
            rw [← hs2] at hrow2
            have e1 : x2 ≠ 0 := by omega
            have e2 : ¬ g < x2 := by omega
            have e3 : (x2 == 0) = false := by simpa using e1
            clear hs ht
            replace e1 := Lib.hid e1
            replace hrow2 := Lib.hid hrow2
            replace hs2 := Lib.hid hs2
            replace hX := Lib.hid hX
            replace hbe := Lib.hid hbe
            replace hlen := Lib.hid hlen
            clear hrow hll
            go_wp2_with fail
            go_roundw
            case rel => exact ⟨j + 1, by omega, by go_num, hrow2.out, hbe.out, hX.out⟩
            case measure => (simp [intOf]; try omega)
        · obtain rfl : j = l.length := by omega
          rw [List.take_length] at *
          have hjlI : ¬ (l.length : Int) < (l.length : Int) := by omega
          have hfin := hX.fin (n2 := k) (last2 := last) (u := .slice q1 (left3 g l).length cap1)
          have hC : Chg (fun x => x = R) wr (wr.setRow R (lsC k last (.slice q1 (left3 g l).length cap1)).toArray) := Chg.setRow _ rfl
          have hfr : FreshV w (.slice q1 (left3 g l).length cap1) := hrow.fresh (Nat.le_trans hwW hsz)
          have hfy : FreshV w (.slice q6 (tell3 g l k).length cap6) := fun b e => Nat.le_trans hwW (hown.out b e).1
          have hrf : Cs3 (wr.setRow R (lsC k last (.slice q1 (left3 g l).length cap1)).toArray) (.slice q1 (left3 g l).length cap1) (left3 g l) :=
            (hrow.chg hC (fun b hb e => by omega)).cs3
          have hif : Ints (wr.setRow R (lsC k last (.slice q1 (left3 g l).length cap1)).toArray) (.slice q6 (tell3 g l k).length cap6) (tell3 g l k) :=
            Slc.chg (Slc.below hint.out hbe) hC (fun b hb e => by have := (hown.out b hb).1; omega)
          generalize (left3 g l).length = NL at *
          generalize (tell3 g l k).length = NT at *
          replace hfin := Lib.hid hfin
          replace hrf := Lib.hid hrf
          replace hfr := Lib.hid hfr
          replace hfy := Lib.hid hfy
          replace hif := Lib.hid hif
          replace hX := Lib.hid hX
          replace hlen := Lib.hid hlen
          replace hbe := Lib.hid hbe
          clear hrow hC hll
          go_wp2_with (refine storeL hX.out.r rfl rfl _ _ rfl rfl rfl rfl ?_)
          refine bodyPost_ret (results_row_slot rfl _ hfin.out.1 rfl _ Tryd.underlying52 rfl 3 size11 rfl) rfl ⟨.slice q1 NL cap1, .slice q6 NT cap6, rfl, hrf.out, hif.out, hfr.out, hfy.out, hfin.out.2⟩
end Go.Proofs.YtefippjakkgjkaaDoor.K

/- CallsPlays in plain mathematics: the document's one list against a ring for each CPU. -/
namespace Go.Proofs.YtefippjakkgjkaaDoor.K
open Go.RowKit

theorem pw_all {α : Type} (R : α → α → Prop) : ∀ (l : List α), (∀ a b, R a b) → l.Pairwise R
  | [], _ => .nil
  | _ :: l, h => .cons (fun b _ => h _ b) (pw_all R l h)
/-- The rings of the document's list. -/
def ringL (L : List C3) (c : Nat) : List Cl := (L.filter fun x => x.1 == c).map (·.2)
def ringsL (n : Nat) (L : List C3) : List (List Cl) := (List.range n).map (ringL L)
theorem ringsL_get (n : Nat) (L : List C3) (c : Nat) (h : c < n) : (ringsL n L).getD c [] = ringL L c := by simp [ringsL, List.getD, h]
theorem ringL_len (L : List C3) (c : Nat) : (ringL L c).length = cnt3 L c := by simp [ringL, cnt3]
/-- What holds of the document's list. -/
structure Fit (n : Nat) (last : Int) (L : List C3) : Prop where
  cpu : ∀ x ∈ L, x.1 < n
  gen : ∀ x ∈ L, 0 ≤ x.2.2 ∧ x.2.2 ≤ last
  ord : L.Pairwise fun a b => b.2.2 ≠ 0 → a.2.2 ≠ 0 ∧ a.2.2 ≤ b.2.2
  room : ∀ c, cnt3 L c ≤ 64
  nn : 0 ≤ last
theorem Fit.nil (n : Nat) : Fit n 0 [] := ⟨fun _ h => (by cases h), fun _ h => (by cases h), .nil, fun _ => by simp [cnt3], Int.le_refl _⟩
section
variable {n : Nat} {last : Int} {L : List C3}
theorem cnt3_addN (c : Nat) (ids : List Int) (d : Nat) : cnt3 (addN L c ids) d = cnt3 L d + if d = c then ids.length else 0 := by
  unfold cnt3 addN
  rw [List.filter_append, List.length_append]
  congr 1
  by_cases e : d = c
  · subst e
    rw [if_pos rfl, List.filter_eq_self.2 fun x hx => by obtain ⟨i, _, rfl⟩ := List.mem_map.1 hx; simp, List.length_map]
  · rw [if_neg e, List.filter_eq_nil_iff.2 fun x hx => by obtain ⟨i, _, rfl⟩ := List.mem_map.1 hx; simp [Ne.symm e]]; rfl
theorem Fit.add (h : Fit n last L) (c : Nat) (hc : c < n) (ids : List Int) : Fit n last (add3 L c ids) := by
  unfold add3
  generalize hI : ids.take (64 - cnt3 L c) = I
  have hIl : I.length ≤ 64 - cnt3 L c := by rw [← hI, List.length_take]; omega
  have hm : ∀ x ∈ addN L c I, x ∈ L ∨ (x.1 = c ∧ x.2.2 = 0) := fun x hx => by
    rcases List.mem_append.1 hx with h | h
    · exact .inl h
    · obtain ⟨i, _, rfl⟩ := List.mem_map.1 h; exact .inr ⟨rfl, rfl⟩
  refine ⟨fun x hx => ?_, fun x hx => ?_, ?_, fun d => ?_, h.nn⟩
  · rcases hm x hx with h1 | ⟨h1, _⟩
    · exact h.cpu x h1
    · omega
  · rcases hm x hx with h1 | ⟨_, h1⟩
    · exact h.gen x h1
    · rw [h1]; exact ⟨Int.le_refl _, h.nn⟩
  · unfold addN
    rw [List.pairwise_append]
    refine ⟨h.ord, ?_, fun a _ b hb hb0 => ?_⟩
    · rw [List.pairwise_map]
      exact pw_all _ _ fun _ _ h0 => absurd rfl h0
    · obtain ⟨i, _, rfl⟩ := List.mem_map.1 hb; exact absurd rfl hb0
  · rw [cnt3_addN]
    have := h.room d
    have := h.room c
    split
    · rename_i e; subst e; omega
    · omega
theorem ringsL_add (c : Nat) (hc : c < n) (ids : List Int) : (ringsL n L).set c (addR ((ringsL n L).getD c []) ids) = ringsL n (add3 L c ids) := by
  rw [ringsL_get n L c hc]
  apply List.ext_getElem
  · simp [ringsL]
  · intro i h1 h2
    rw [List.getElem_set]
    simp only [ringsL, List.getElem_map, List.getElem_range]
    unfold addR add3 addN
    rw [ringL_len]
    generalize ids.take (64 - cnt3 L c) = I
    by_cases e : c = i
    · subst e
      rw [if_pos rfl]
      unfold ringL
      rw [List.filter_append, List.map_append]
      congr 1
      rw [List.filter_eq_self.2 fun x hx => by obtain ⟨i, _, rfl⟩ := List.mem_map.1 hx; simp, List.map_map]
      rfl
    · rw [if_neg e]
      unfold ringL
      rw [List.filter_append, List.map_append]
      have hnil : (I.map fun j => ((c, j, 0) : C3)).filter (fun x => x.1 == i) = [] := List.filter_eq_nil_iff.2 fun x hx => by
        obtain ⟨j, _, rfl⟩ := List.mem_map.1 hx
        simpa using e
      rw [hnil]
      simp
theorem Fit.close (h : Fit n last L) (g : Int) (h1 : 1 ≤ g) (h2 : last ≤ g) : Fit n g (close3 g L) := by
  unfold close3
  refine ⟨fun x hx => ?_, fun x hx => ?_, ?_, fun c => ?_, by omega⟩
  · obtain ⟨y, hy, rfl⟩ := List.mem_map.1 hx
    have := h.cpu y hy
    unfold clo3; split <;> exact this
  · obtain ⟨y, hy, rfl⟩ := List.mem_map.1 hx
    have := h.gen y hy
    unfold clo3; split
    · exact ⟨by simp only; omega, by simp only; omega⟩
    · exact ⟨this.1, by omega⟩
  · rw [List.pairwise_map]
    refine h.ord.imp_of_mem fun {a b} ha hb hab => ?_
    have ga := h.gen a ha
    have gb := h.gen b hb
    intro _
    unfold clo3
    by_cases eb : b.2.2 = 0
    · rw [if_pos eb]
      by_cases ea : a.2.2 = 0
      · rw [if_pos ea]; exact ⟨by simp only; omega, Int.le_refl _⟩
      · rw [if_neg ea]; exact ⟨ea, by simp only; omega⟩
    · have := hab eb
      rw [if_neg eb, if_neg this.1]
      exact this
  · have := h.room c
    unfold cnt3 at *
    rw [List.filter_map, List.length_map]
    rw [show ((fun x : C3 => x.1 == c) ∘ clo3 g) = fun x => x.1 == c by
      funext x; simp only [Function.comp, clo3]; split <;> rfl]
    exact this
theorem ringsL_close (g : Int) : closeL g (ringsL n L) = ringsL n (close3 g L) := by
  unfold closeL ringsL
  rw [List.map_map]
  refine List.map_congr_left fun c _ => ?_
  simp only [Function.comp, ringL, close3]
  rw [List.filter_map, List.map_map, List.map_map]
  rw [show ((fun x : C3 => x.1 == c) ∘ clo3 g) = fun x => x.1 == c by
    funext x; simp only [Function.comp, clo3]; split <;> rfl]
  refine List.map_congr_left fun x _ => ?_
  simp only [Function.comp, clo3, clo]
  split <;> rfl
theorem take_filter' {α : Type} (p : α → Bool) : ∀ (l : List α), l.Pairwise (fun a b => p b = true → p a = true) → l.takeWhile p = l.filter p ∧ l.dropWhile p = l.filter fun a => !p a
  | [], _ => ⟨rfl, rfl⟩
  | a :: l, h => by
    rw [List.pairwise_cons] at h
    have ih := take_filter' p l h.2
    by_cases e : p a = true
    · rw [List.takeWhile_cons_of_pos e, List.dropWhile_cons_of_pos e, List.filter_cons_of_pos e, List.filter_cons_of_neg (by simp [e])]
      exact ⟨by rw [ih.1], ih.2⟩
    · have hn : ∀ b ∈ l, p b = false := fun b hb => by
        cases hpb : p b
        · rfl
        · exact absurd (h.1 b hb hpb) e
      rw [List.takeWhile_cons_of_neg e, List.dropWhile_cons_of_neg e, List.filter_cons_of_neg e, List.filter_cons_of_pos (by simpa using e)]
      refine ⟨(List.filter_eq_nil_iff.2 fun b hb => by simp [hn b hb]).symm, ?_⟩
      rw [List.filter_eq_self.2 fun b hb => by simp [hn b hb]]
theorem ringL_ord (h : Fit n last L) (g : Int) (c : Nat) : (ringL L c).Pairwise fun a b => dnB g b = true → dnB g a = true := by
  unfold ringL
  rw [List.pairwise_map]
  refine (h.ord.filter _).imp fun {a b} hab hb => ?_
  simp only [dnB, Bool.and_eq_true, decide_eq_true_eq] at hb ⊢
  have := hab hb.1
  exact ⟨this.1, by omega⟩
theorem tell_ringsL (h : Fit n last L) (g : Int) : tellL g (ringsL n L) = tell3 g L n := by
  unfold tellL ringsL tell3
  rw [List.map_map]
  congr 1
  refine List.map_congr_left fun c _ => ?_
  simp only [Function.comp, dnL, tellC]
  rw [(take_filter' _ _ (ringL_ord h g c)).1]
  unfold ringL
  rw [List.filter_map, List.filter_filter, List.map_map]
  refine congr (congrArg List.map rfl) (List.filter_congr fun x hx => ?_)
  have := h.gen x hx
  simp only [Function.comp, dnB, dn3]
  by_cases e : x.1 = c
  · have : decide (x.2.2 ≠ 0) = decide (0 < x.2.2) := decide_eq_decide.2 (by omega)
    rw [this]; simp [e]
  · have e1 : (x.1 == c) = false := by rw [beq_eq_false_iff_ne]; exact e
    rw [e1]; simp
theorem left_ringsL (h : Fit n last L) (g : Int) : (ringsL n L).map (lfL g) = ringsL n (left3 g L) := by
  unfold ringsL
  rw [List.map_map]
  refine List.map_congr_left fun c _ => ?_
  simp only [Function.comp, lfL]
  rw [(take_filter' _ _ (ringL_ord h g c)).2]
  unfold ringL left3
  rw [List.filter_map, List.filter_filter, List.filter_filter]
  refine congr (congrArg List.map rfl) (List.filter_congr fun x hx => ?_)
  have := h.gen x hx
  simp only [Function.comp, dnB, lf3]
  by_cases e : x.1 = c
  · by_cases e2 : x.2.2 = 0
    · simp [e, e2]
    · by_cases e3 : g < x.2.2
      · simp [e, e2, e3]
      · simp [e, e2, e3]; omega
  · have e1 : (x.1 == c) = false := by rw [beq_eq_false_iff_ne]; exact e
    rw [e1]; simp
theorem Fit.left (h : Fit n last L) (g : Int) : Fit n last (left3 g L) := by
  unfold left3
  refine ⟨fun x hx => h.cpu x (List.mem_filter.1 hx).1, fun x hx => h.gen x (List.mem_filter.1 hx).1, h.ord.filter _, fun c => Nat.le_trans ?_ (h.room c), h.nn⟩
  unfold cnt3
  exact ((List.filter_sublist (l := L) (p := lf3 g)).filter _).length_le
/-! ### All rings together -/
theorem perm_filter_lt (L : List C3) : ∀ n, ((List.range n).map fun c => L.filter fun x => x.1 == c).flatten.Perm (L.filter fun x => decide (x.1 < n))
  | 0 => by simp
  | n + 1 => by
    rw [List.range_succ, List.map_append, List.flatten_append]
    refine (List.Perm.append_right _ (perm_filter_lt L n)).trans ?_
    simp only [List.map_cons, List.map_nil, List.flatten_cons, List.flatten_nil, List.append_nil]
    have := List.filter_append_perm (fun x : C3 => decide (x.1 < n)) (L.filter fun x => decide (x.1 < n + 1))
    rw [List.filter_filter, List.filter_filter] at this
    rw [show (L.filter fun x => decide (x.1 < n) && decide (x.1 < n + 1)) = L.filter fun x => decide (x.1 < n) from List.filter_congr fun x _ => by
      by_cases e : x.1 < n
      · simp [e, show x.1 < n + 1 by omega]
      · simp [e]] at this
    rw [show (L.filter fun x => (!decide (x.1 < n)) && decide (x.1 < n + 1)) = L.filter fun x => x.1 == n from List.filter_congr fun x _ => by
      by_cases e : x.1 = n
      · simp [e]
      · by_cases e2 : x.1 < n
        · simp [e2]; omega
        · simp [show ¬ x.1 < n + 1 by omega, e]] at this
    exact this
theorem ringsL_perm (h : Fit n last L) : (ringsL n L).flatten.Perm (L.map (·.2)) := by
  have h1 := (perm_filter_lt L n).map (fun x : C3 => x.2)
  rw [List.filter_eq_self.2 fun x hx => by simpa using h.cpu x hx, List.map_flatten, List.map_map] at h1
  exact h1
theorem openC_ringsL (h : Fit n last L) : openC (ringsL n L).flatten = open3 L := by
  unfold openC open3
  rw [((ringsL_perm h).filter _).length_eq, List.filter_map, List.length_map]; rfl
theorem len_ringsL (h : Fit n last L) : (ringsL n L).flatten.length = L.length := by
  rw [(ringsL_perm h).length_eq, List.length_map]
theorem newC_ringsL (h : Fit n last L) : newC (ringsL n L).flatten = most3 L := by
  unfold newC most3
  rw [List.Perm.foldl_eq' (ringsL_perm h) (fun x _ y _ z => by show max (max z x.2) y.2 = max (max z y.2) x.2; omega), List.foldl_map]
end
end Go.Proofs.YtefippjakkgjkaaDoor.K
