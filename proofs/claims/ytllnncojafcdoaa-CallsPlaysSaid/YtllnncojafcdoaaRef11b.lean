/- The reference of calls: Add. -/
import Derived.Test.YtllnncojafcdoaaRef11
namespace Go.Proofs.Ytllnncojafcdoaa
open Go.RowKit

def lsC (n : Nat) (last : Int) (v : Value) : List Value := [.int .i64 (n : Int), .int .i64 last, v]
theorem size11 : (Try.prog.info? 41).map (·.size) = some 3 := by kernel_rfl
theorem infoRC : (Try.prog.info? 55).map (fun i => (i.zero, i.size, i.bytes)) = some (some (.agg #[.int .i64 0, .int .i64 0, .int .i64 0]), 3, 24) := by kernel_rfl
theorem lsC_one (n : Nat) (last : Int) (v : Value) (hv : v.oneCell' = true) : ∀ c ∈ lsC n last v, c.oneCell' = true := by
  intro c hc
  simp only [lsC, List.mem_cons, List.not_mem_nil, or_false] at hc
  rcases hc with rfl | rfl | rfl
  · rfl
  · rfl
  · exact hv
theorem rc_one (l : List C3) : ∀ el ∈ l.map rc, ∀ y ∈ el, y.oneCell' = true := by
  intro el hel y hy
  obtain ⟨s, _, rfl⟩ := List.mem_map.1 hel
  simp only [rc, List.mem_cons, List.not_mem_nil, or_false] at hy
  rcases hy with rfl | rfl | rfl <;> rfl
theorem loadL {ops : Array Oper} {rest : List Oper} {o : Oper} {a : Act} {w : World} {Q : Exit → Act → World → Prop} {g n : Nat} {last : Int} {v : Value} (hb : Blk w g 41 (lsC n last v)) (hgd : o.guard = none) (x : Operand) (ho : o.op = .load 41 x)
    (hx : a.eval x = .pointer (some ⟨g, 0, none⟩)) (h : wpList Try.prog ops Q rest (a.put o.dst (.agg (lsC n last v).toArray)) w) : wpList Try.prog ops Q (o :: rest) a w :=
  loadRow hb hgd _ x ho hx _ Try.underlying41 rfl 3 size11 rfl h
theorem storeL {ops : Array Oper} {rest : List Oper} {o : Oper} {a : Act} {w : World} {Q : Exit → Act → World → Prop} {g n n' : Nat} {last last' : Int} {v v' : Value} (hb : Blk w g 41 (lsC n' last' v')) (hv : v.oneCell' = true) (hgd : o.guard = none) (x y : Operand) (ho : o.op = .store 41 x y) (hd : o.dst = none)
    (hx : a.eval x = .pointer (some ⟨g, 0, none⟩)) (hy : a.eval y = .agg (lsC n last v).toArray) (h : wpList Try.prog ops Q rest a (w.setRow g (lsC n last v).toArray)) : wpList Try.prog ops Q (o :: rest) a w :=
  storeRow hb (lsC n last v) hgd _ x y ho hd hx hy 3 size11 rfl rfl (lsC_one n last v hv) h
/-- Behind the box of the receiver and the result's block. -/
structure Box2 (w : World) (B R : Nat) (n : Nat) (last : Int) (v : Value) (W : World) : Prop where
  b : Blk W B 41 (lsC n last v)
  r : Blk W R 41 (lsC 0 0 (.slice none 0 0))
  k : Keeps w W
  new : w.heap.size ≤ B ∧ w.heap.size ≤ R
theorem Box2.kept {w W W' : World} {B R n : Nat} {last : Int} {v : Value} (h : Box2 w B R n last v W) (hk : Below W.heap.size W W') : Box2 w B R n last v W' := ⟨h.b.keeps hk, h.r.keeps hk, Keeps.trans h.k hk, h.new⟩
theorem Box2.fin {w W : World} {B R n n2 : Nat} {last last2 : Int} {v u : Value} (h : Box2 w B R n last v W) : Blk (W.setRow R (lsC n2 last2 u).toArray) R 41 (lsC n2 last2 u) ∧ Keeps w (W.setRow R (lsC n2 last2 u).toArray) :=
  ⟨h.r.setRow _, Chg.keeps (S := fun k => k = R) (Chg.setRow _ rfl) h.k (fun k hk => by have := h.new; omega)⟩
theorem Box2.start {w : World} {B R n : Nat} {last : Int} {v : Value} (h1 : B = w.heap.size) (h2 : R = w.heap.size + 1) :
    Box2 w B R n last v ((w.alloc (.cells (lsC n last v).toArray 41)).alloc (.cells (lsC 0 0 (.slice none 0 0)).toArray 41)) := by
  subst h1; subst h2
  exact ⟨(Blk.new _ _ _).alloc _, Blk.at (by simp) rfl, (Keeps.alloc _ _).trans (Keeps.alloc _ _), by omega, by omega⟩
set_option maxRecDepth 100000 in
set_option maxHeartbeats 1000000 in
theorem r11Add_no (n : Nat) (last : Int) (v u : Value) (l : List C3) (c : Int) (w : World) (hv : Cs3 w v l) (h : c < 0 ∨ (n : Int) ≤ c) :
    Calls Try.prog 13 #[ls3 n last v, .int .i64 c, u] w fun e w' => e = .returned (.tuple #[ls3 n last v, .int .i64 2]) ∧ Keeps w w' := by
  obtain ⟨p, cap, rfl, hl, hc, _⟩ := hv.get
  have hcase : c < 0 ∨ (¬ c < 0 ∧ (n : Int) ≤ c) := by omega
  unfold ls3
  clear h hv
  go_enter Try.func13, Try.ntmps13
  go_upto_region 1 with (fail)
  obtain ⟨B, hB⟩ : ∃ B, B = w.heap.size := ⟨_, rfl⟩
  obtain ⟨R, hR⟩ : ∃ R, R = w.heap.size + 1 := ⟨_, rfl⟩
  refine wp_gen (fun W => Box2 w B R n last (.slice p l.length cap) W) (Box2.start hB hR) ?_
  rw [← hR, ← hB]
  clear hB hR
  rintro W hX
  have z0 := hX.b.cell 0 (by simp [lsC])
  simp only [lsC, List.getElem_cons_zero] at z0
  replace hX := Lib.hid hX
  rcases hcase with h1 | ⟨h1, h2⟩
  all_goals
    go_wp2_with (first | (refine loadL hX.out.b rfl _ rfl rfl ?_) | (refine storeL hX.out.r rfl rfl _ _ rfl rfl rfl rfl ?_))
    refine bodyPost_ret (results_row_slot rfl _ hX.out.fin.1 rfl _ Try.underlying41 rfl 3 size11 rfl) rfl ⟨rfl, hX.out.fin.2⟩
/-- A value that lies in memory behind w's. -/
def FreshV (w : World) (v : Value) : Prop := ∀ b, v.ownBlock = some b → w.heap.size ≤ b
theorem RowS.fresh {sz base : Nat} {e : TypeId} {w w0 : World} {v : Value} {els : List (List Value)} (h : RowS sz base e w v els) (hb : w0.heap.size ≤ base) : FreshV w0 v := fun b e => Nat.le_trans hb (h.own b e)
def addN (l : List C3) (c : Nat) (ids : List Int) : List C3 := l ++ ids.map fun i => (c, i, 0)
def add3 (l : List C3) (c : Nat) (ids : List Int) : List C3 := addN l c (ids.take (64 - cnt3 l c))
theorem addN_succ (l : List C3) (c k : Nat) (ids : List Int) (h : k < ids.length) : addN l c (ids.take (k + 1)) = addN l c (ids.take k) ++ [(c, ids[k], 0)] := by
  unfold addN
  rw [List.take_succ_eq_append_getElem h, List.map_append, ← List.append_assoc]; rfl
theorem addN_len (l : List C3) (c k : Nat) (ids : List Int) (h : k ≤ ids.length) : (addN l c (ids.take k)).length = l.length + k := by
  unfold addN
  rw [List.length_append, List.length_map, List.length_take]; omega
theorem RowS.cs3 {w : World} {base : Nat} {e : TypeId} {v : Value} {l : List C3} (h : RowS 3 base e w v (l.map rc)) : Cs3 w v l := h.slcs
set_option maxRecDepth 100000 in
set_option maxHeartbeats 2000000 in
theorem r11Add_yes (n : Nat) (last : Int) (v u : Value) (l : List C3) (c : Nat) (ids : List Int) (w : World) (hv : Cs3 w v l) (hu : Ints w u ids) (hc : c < n) (hl1 : l.length ≤ 100000) (hi1 : ids.length ≤ 1000) (hcn : cnt3 l c ≤ 64) :
    Calls Try.prog 13 #[ls3 n last v, .int .i64 (c : Int), u] w fun e w' => ∃ v', e = .returned (.tuple #[ls3 n last v', .int .i64 (if ids.length ≤ 64 - cnt3 l c then 0 else 3)]) ∧ Cs3 w' v' (add3 l c ids) ∧ FreshV w v' ∧ Keeps w w' := by
  obtain ⟨p, cap, rfl, hl, hc1, _⟩ := hv.get
  obtain ⟨q, cap2, rfl, hl2, hc2, _⟩ := hu.open
  have hcnt := fun (W : World) (h : Cs3 W (.slice p l.length cap) l) => r11Count_any n last (.slice p l.length cap) l c W h
  have hcI : ¬ (c : Int) < 0 := by omega
  have hcI2 : ¬ (n : Int) ≤ (c : Int) := by omega
  have hliI : (0 : Int) ≤ (ids.length : Int) := by omega
  obtain ⟨er, her⟩ : ∃ x : Int, x = if ids.length ≤ 64 - cnt3 l c then 0 else 3 := ⟨_, rfl⟩
  rw [← her]
  replace hv := Lib.hid hv
  replace hu := Lib.hid hu
  replace hcnt := Lib.hid hcnt
  unfold ls3
  replace her := Lib.hid her
  go_enter Try.func13, Try.ntmps13
  go_upto_region 1 with (fail)
  obtain ⟨B, hB⟩ : ∃ B, B = w.heap.size := ⟨_, rfl⟩
  obtain ⟨R, hR⟩ : ∃ R, R = w.heap.size + 1 := ⟨_, rfl⟩
  refine wp_gen (fun W => Box2 w B R n last (.slice p l.length cap) W) (Box2.start hB hR) ?_
  rw [← hR, ← hB]
  clear hB hR
  rintro W hX
  have z0 := hX.b.cell 0 (by simp [lsC])
  have z2 := hX.b.cell 2 (by simp [lsC])
  simp only [lsC, List.getElem_cons_zero, List.getElem_cons_succ] at z0 z2
  have hBl := hX.b.lt
  have hRl := hX.r.lt
  have hwW : w.heap.size ≤ W.heap.size := hX.k.size
  have hB0 := Keeps.alloc W (.cells #[] 55)
  have hsrc := (hv.out.keeps hX.k).keeps hB0
  replace hX := Lib.hid hX
  replace hB0 := Lib.hid hB0
  replace hsrc := Lib.hid hsrc
  go_wp2_with (at_builtin; refine appN rfl _ _ 39 55 _ 3 24 rfl Try.underlying39 infoRC rfl (by decide) W.heap.size _ [] rfl (RowS.empty 3 _ _ W (Nat.le_refl _)) _ (l.map rc) rfl hsrc.out (rc_one l) ?c1 ?c2 ?c3 ?_)
  case c1 => unfold maxLen; omega
  case c2 => omega
  intro v1 W3 hrow _ hbel
  replace hrow : RowS 3 W.heap.size 55 W3 v1 ((addN l c (ids.take 0)).map rc) := by simpa [addN] using hrow
  have hK3 : Keeps W W3 := Below.trans hB0.out hbel
  have hX3 := hX.out.kept hK3
  have hcnt3 := hcnt.out W3 ((hv.out.keeps hX.out.k).keeps hK3)
  replace hrow := Lib.hid hrow
  replace hK3 := Lib.hid hK3
  replace hX3 := Lib.hid hX3
  replace hcnt3 := Lib.hid hcnt3
  clear hcnt hsrc hB0 hbel z0 z2 hX
  go_wp2_with (refine loadL hX3.out.b rfl _ rfl rfl ?_)
  refine hcnt3.out.mono ?_
  rintro e W4 ⟨rfl, hK4⟩
  have hrow4 : RowS 3 W.heap.size 55 W4 v1 ((addN l c (ids.take 0)).map rc) := hrow.out.chg (S := fun _ => False) (Chg.of_keeps hK4) (fun _ _ h => h)
  have hB4 : Below W.heap.size W W4 := Keeps.trans hK3.out hK4
  have hX4 := hX3.out.kept hK4
  obtain ⟨CN, hCN⟩ : ∃ x, x = cnt3 l c := ⟨_, rfl⟩
  rw [← hCN] at hcn ⊢
  replace hrow4 := Lib.hid hrow4
  replace hB4 := Lib.hid hB4
  replace hX4 := Lib.hid hX4
  replace hCN := Lib.hid hCN
  clear hrow hK3 hX3 hK4 hcnt3
  go_wp2_with fail
  go_loopw [8, 9, 10] (fun y m i wr => ∃ k : Nat, k ≤ ids.length ∧ CN + k ≤ 64 ∧ i = .int .i64 (k : Int) ∧ m = .int .i64 ((CN : Int) + (k : Int)) ∧ RowS 3 W.heap.size 55 wr y ((addN l c (ids.take k)).map rc) ∧ Below W.heap.size W wr ∧ Box2 w B R n last (.slice p l.length cap) wr) (fun _ _ i _ => ids.length - (intOf i).toNat)
  case atStart => exact ⟨0, Nat.zero_le _, hcn, rfl, by go_num, hrow4.out, hB4.out, hX4.out⟩
  case round =>
    clear hrow4 hB4 hX4
    obtain ⟨k, hk, hck, rfl, rfl, hrow, hbe, hX⟩ := hrel
    obtain ⟨q1, cap1, rfl⟩ := hrow.any
    have hlen : ((addN l c (ids.take k)).map rc).length = l.length + k := by rw [List.length_map, addN_len l c k ids hk]
    rw [hlen] at hrow ⊢
    have z0 := hX.b.cell 0 (by simp [lsC])
    have z1 := hX.b.cell 1 (by simp [lsC])
    simp only [lsC, List.getElem_cons_zero, List.getElem_cons_succ] at z0 z1
    by_cases hlt : k < ids.length
    · have hltI := Int.ofNat_lt.2 hlt
      by_cases h64 : CN + k < 64
      · have h64I : (CN : Int) + (k : Int) < 64 := by omega
        have hsu := addN_succ l c k ids hlt
        obtain ⟨sb, soff, hs1, hs2⟩ : ∃ sb soff, q = some ⟨sb, soff, none⟩ ∧ wr.cell? ⟨sb, soff + k, none⟩ = some (.int .i64 ids[k]) := by
          have hzr : Ints wr (.slice q ids.length cap2) ids := Slc.below hu.out hX.k
          obtain ⟨q', c', hv', _, _, hcell⟩ := hzr.open
          obtain ⟨b, off, h1, h2⟩ := hcell k hlt
          simp only [Value.slice.injEq] at hv'
          exact ⟨b, off, by rw [hv'.1]; exact h1, h2⟩
        subst hs1
        generalize ids[k] = id at *
        have hsrc2 : SlcS 3 (wr.alloc (.cells (rc (c, id, 0)).toArray 55)) (.slice (some ⟨wr.heap.size, 0, none⟩) 1 1) ([((c, id, 0) : C3)].map rc) := slcs_one (Blk.new wr _ _) rfl
        have hrow2 := hrow.alloc (.cells (rc (c, id, 0)).toArray 55)
        have hB1 := Keeps.alloc wr (.cells (rc (c, id, 0)).toArray 55)
        have hsz := hbe.size
        replace hsrc2 := Lib.hid hsrc2
        replace hrow2 := Lib.hid hrow2
        replace hB1 := Lib.hid hB1
        replace hbe := Lib.hid hbe
        replace hX := Lib.hid hX
        replace hlen := Lib.hid hlen
        replace hsu := Lib.hid hsu
        clear hrow
        go_wp2_with (at_builtin; refine appN rfl _ _ 39 55 _ 3 24 rfl Try.underlying39 infoRC rfl (by decide) W.heap.size _ _ rfl hrow2.out _ _ rfl hsrc2.out (rc_one [((c, id, 0) : C3)]) ?d1 ?d2 ?d3 ?_)
        case d1 => have := hlen.out; rw [this]; simp; unfold maxLen; omega
        case d2 => have := hlen.out; rw [this]; simp; omega
        case d3 => (simp only [World.size_alloc]; omega)
        intro v2 W4 hrow _ hbel
        replace hrow : RowS 3 W.heap.size 55 W4 v2 ((addN l c (ids.take (k + 1))).map rc) := by rw [hsu.out, List.map_append]; exact hrow
        have hbe4 : Below W.heap.size wr W4 := Below.trans (Below.mono hB1.out hsz) hbel
        have hX4 : Box2 w B R n last (.slice p l.length cap) W4 := ⟨hX.out.b.below hbe4 hBl, hX.out.r.below hbe4 hRl, Below.trans hX.out.k (Below.mono hbe4 hwW), hX.out.new⟩
        have hbe5 : Below W.heap.size W W4 := Below.trans hbe.out hbe4
        replace hrow := Lib.hid hrow
        replace hbe5 := Lib.hid hbe5
        replace hX4 := Lib.hid hX4
        clear hbel hbe4 hbe hX hsrc2 hrow2 hB1
        go_wp2_with fail
        go_roundw
        case rel => exact ⟨k + 1, by omega, by omega, by go_num, by go_num, hrow.out, hbe5.out, hX4.out⟩
        case measure => (simp [intOf]; try omega)
      · have h64I : 64 ≤ (CN : Int) + (k : Int) := by omega
        have hfin := hX.fin (n2 := n) (last2 := last) (u := .slice q1 (l.length + k) cap1)
        have hfr := hrow.fresh hwW
        have hrf : Cs3 (wr.setRow R (lsC n last (.slice q1 (l.length + k) cap1)).toArray) (.slice q1 (l.length + k) cap1) (add3 l c ids) := by
          have h1 := hrow.chg (S := fun k => k = R) (Chg.setRow (lsC n last (.slice q1 (l.length + k) cap1)).toArray rfl) (fun b hb e => by omega)
          have h2 := h1.cs3
          unfold add3
          rw [← hCN.out, show 64 - CN = k by omega]
          exact h2
        have hif : er = 3 := by rw [her.out, ← hCN.out]; exact if_neg (by omega)
        replace hfin := Lib.hid hfin
        replace hrf := Lib.hid hrf
        replace hfr := Lib.hid hfr
        replace hX := Lib.hid hX
        replace hlen := Lib.hid hlen
        replace hbe := Lib.hid hbe
        replace hif := Lib.hid hif
        clear hrow
        go_wp2_with (refine storeL hX.out.r rfl rfl _ _ rfl rfl rfl rfl ?_)
        refine bodyPost_ret (results_row_slot rfl _ hfin.out.1 rfl _ Try.underlying41 rfl 3 size11 rfl) rfl ⟨_, by rw [hif.out]; rfl, hrf.out, hfr.out, hfin.out.2⟩
    · obtain rfl : k = ids.length := by omega
      have hfin := hX.fin (n2 := n) (last2 := last) (u := .slice q1 (l.length + ids.length) cap1)
      have hfr := hrow.fresh hwW
      have hrf : Cs3 (wr.setRow R (lsC n last (.slice q1 (l.length + ids.length) cap1)).toArray) (.slice q1 (l.length + ids.length) cap1) (add3 l c ids) := by
        have h1 := hrow.chg (S := fun k => k = R) (Chg.setRow (lsC n last (.slice q1 (l.length + ids.length) cap1)).toArray rfl) (fun b hb e => by omega)
        have h2 := h1.cs3
        unfold add3
        rw [← hCN.out, List.take_of_length_le (show ids.length ≤ 64 - CN by omega)]
        rw [List.take_of_length_le (Nat.le_refl _)] at h2
        exact h2
      have hif : er = 0 := by rw [her.out, ← hCN.out]; exact if_pos (by omega)
      replace hfin := Lib.hid hfin
      replace hrf := Lib.hid hrf
      replace hfr := Lib.hid hfr
      replace hX := Lib.hid hX
      replace hlen := Lib.hid hlen
      replace hbe := Lib.hid hbe
      replace hif := Lib.hid hif
      clear hrow
      go_wp2_with (refine storeL hX.out.r rfl rfl _ _ rfl rfl rfl rfl ?_)
      refine bodyPost_ret (results_row_slot rfl _ hfin.out.1 rfl _ Try.underlying41 rfl 3 size11 rfl) rfl ⟨_, by rw [hif.out]; rfl, hrf.out, hfr.out, hfin.out.2⟩
end Go.Proofs.Ytllnncojafcdoaa
