/- The reference of calls: Done. -/
import Derived.Test.YtllnncojafcdoaaRef11c
import Derived.Test.YtllnncojafcdoaaCallsF
namespace Go.Proofs.Ytllnncojafcdoaa
open Go.RowKit

/-- Told by Done: of CPU c. -/
def dn3 (g : Int) (c : Nat) (x : C3) : Bool := x.1 == c && (decide (0 < x.2.2) && decide (x.2.2 ≤ g))
def tellC (g : Int) (l : List C3) (c : Nat) : List Int := (l.filter (dn3 g c)).map (·.2.1)
def tell3 (g : Int) (l : List C3) (n : Nat) : List Int := ((List.range n).map (tellC g l)).flatten
def lf3 (g : Int) (x : C3) : Bool := decide (x.2.2 = 0) || decide (g < x.2.2)
def left3 (g : Int) (l : List C3) : List C3 := l.filter (lf3 g)
theorem tellC_succ (g : Int) (l : List C3) (c k : Nat) (h : k < l.length) : tellC g (l.take (k + 1)) c = tellC g (l.take k) c ++ if dn3 g c l[k] then [l[k].2.1] else [] := by
  unfold tellC
  rw [List.take_succ_eq_append_getElem h, List.filter_append, List.map_append]
  congr 1
  by_cases e : dn3 g c l[k] = true <;> simp [e]
theorem tell3_succ (g : Int) (l : List C3) (n : Nat) : tell3 g l (n + 1) = tell3 g l n ++ tellC g l n := by
  unfold tell3
  rw [List.range_succ, List.map_append, List.flatten_append]; simp
theorem left3_succ (g : Int) (l : List C3) (k : Nat) (h : k < l.length) : left3 g (l.take (k + 1)) = left3 g (l.take k) ++ if lf3 g l[k] then [l[k]] else [] := by
  unfold left3
  rw [List.take_succ_eq_append_getElem h, List.filter_append]
  congr 1
  by_cases e : lf3 g l[k] = true <;> simp [e]
theorem tellC_len (g : Int) (l : List C3) (c : Nat) : (tellC g l c).length ≤ l.length := by
  unfold tellC; rw [List.length_map]; exact List.length_filter_le _ _
theorem tell3_len (g : Int) (l : List C3) (hl : l.length ≤ 100000) : ∀ n, (tell3 g l n).length ≤ n * 100000
  | 0 => by simp [tell3]
  | n + 1 => by
    have h1 := tell3_len g l hl n
    have h2 := tellC_len g l n
    rw [tell3_succ, List.length_append]; omega
theorem left3_len (g : Int) (l : List C3) : (left3 g l).length ≤ l.length := List.length_filter_le _ _
theorem infoI11 : (Try.prog.info? 3).map (fun i => (i.zero, i.size, i.bytes)) = some (some (.int .i64 0), 1, 8) := by kernel_rfl
theorem ownsRow_any {W : World} {base sz : Nat} {e : TypeId} {v : Value} {n : Nat} {xs : List Value} (h : W.ownsRow base e sz v n xs) : ∃ q cap, v = .slice q n cap := by
  rcases h.2 with ⟨h, h0⟩ | ⟨g, cap, cur, h, _⟩
  · exact ⟨none, 0, by rw [h, h0]⟩
  · exact ⟨_, cap, h⟩
set_option maxRecDepth 100000 in
set_option maxHeartbeats 4000000 in
theorem r11Done_any (n : Nat) (last : Int) (v : Value) (l : List C3) (g : Int) (w : World) (hv : Cs3 w v l) (hl1 : l.length ≤ 100000) (hn : n ≤ 64) :
    Calls Try.prog 15 #[ls3 n last v, .int .i64 g] w fun e w' => ∃ v' y, e = .returned (.tuple #[ls3 n last v', y]) ∧ Cs3 w' v' (left3 g l) ∧ Ints w' y (tell3 g l n) ∧ FreshV w v' ∧ FreshV w y ∧ Keeps w w' := by
  obtain ⟨p, cap, rfl, hl, hc1, _⟩ := hv.get
  have hlI : (0 : Int) ≤ (l.length : Int) := by omega
  have hnI : (0 : Int) ≤ (n : Int) := by omega
  have hnI2 : (n : Int) ≤ 64 := by omega
  replace hv := Lib.hid hv
  unfold ls3
  go_enter Try.func15, Try.ntmps15
  go_upto_region 1 with (fail)
  obtain ⟨B, hB⟩ : ∃ B, B = w.heap.size := ⟨_, rfl⟩
  obtain ⟨R, hR⟩ : ∃ R, R = w.heap.size + 1 := ⟨_, rfl⟩
  refine wp_gen (fun W => Box2 w B R n last (.slice p l.length cap) W) (Box2.start hB hR) ?_
  rw [← hR, ← hB]
  clear hB hR
  rintro W hX
  have hBl := hX.b.lt
  have hRl := hX.r.lt
  have hwW : w.heap.size ≤ W.heap.size := hX.k.size
  replace hX := Lib.hid hX
  go_wp2_with fail
  go_loopw [6, 7] (fun y c wr => ∃ k : Nat, k ≤ n ∧ c = .int .i64 (k : Int) ∧ wr.ownsRow W.heap.size 3 1 y (tell3 g l k).length ((tell3 g l k).map (Value.int .i64)) ∧ Below W.heap.size W wr ∧ Box2 w B R n last (.slice p l.length cap) wr) (fun _ c _ => n - (intOf c).toNat)
  case atStart => exact ⟨0, Nat.zero_le _, rfl, ⟨by simp [tell3], .inl ⟨rfl, rfl⟩⟩, Below.refl _ _, hX.out⟩
  case round =>
    clear hX
    obtain ⟨k, hk, rfl, hrow, hbe, hX⟩ := hrel
    obtain ⟨wo, rfl⟩ : ∃ wo : World, wo = wr := ⟨_, rfl⟩
    have z0 := hX.b.cell 0 (by simp [lsC])
    simp only [lsC, List.getElem_cons_zero] at z0
    by_cases hlt : k < n
    · have hltI := Int.ofNat_lt.2 hlt
      replace hrow : wo.ownsRow W.heap.size 3 1 u6 (tell3 g l k ++ tellC g (l.take 0) k).length ((tell3 g l k ++ tellC g (l.take 0) k).map (Value.int .i64)) := by simpa [tellC] using hrow
      replace hrow := Lib.hid hrow
      replace hbe := Lib.hid hbe
      replace hX := Lib.hid hX
      go_wp2_with fail
      go_loopw [6, 8] (fun y i wr => ∃ j : Nat, j ≤ l.length ∧ i = .int .i64 (j : Int) ∧ wr.ownsRow W.heap.size 3 1 y (tell3 g l k ++ tellC g (l.take j) k).length ((tell3 g l k ++ tellC g (l.take j) k).map (Value.int .i64)) ∧ Below W.heap.size W wr ∧ Box2 w B R n last (.slice p l.length cap) wr) (fun _ i _ => l.length - (intOf i).toNat)
      case atStart => exact ⟨0, Nat.zero_le _, rfl, hrow.out, hbe.out, hX.out⟩
      case round =>
        clear hrow hbe hX z0
        obtain ⟨j, hj, rfl, hrow, hbe, hX⟩ := hrel
        have z2 := hX.b.cell 2 (by simp [lsC])
        simp only [lsC, List.getElem_cons_zero, List.getElem_cons_succ] at z2
        by_cases hjl : j < l.length
        · have hjlI := Int.ofNat_lt.2 hjl
          obtain ⟨_, _, hq, _, _, hcell⟩ := (hv.out.keeps hX.k).get
          obtain ⟨b, off, hp, y0, y1, y2⟩ := hcell j hjl
          simp only [Value.slice.injEq] at hq
          obtain rfl : p = some ⟨b, off, none⟩ := hq.1.trans hp
          clear hq hp hcell
          have hs := tellC_succ g l k j hjl
          have hb1 := tell3_len g l hl1 k
          have hb2 := tellC_len g (l.take j) k
          rw [List.length_take] at hb2
          unfold dn3 at hs
          generalize l[j].1 = x0 at *
          generalize l[j].2.1 = x1 at *
          generalize l[j].2.2 = x2 at *
          have hsz := hbe.size
          by_cases e0 : x0 = k
          · by_cases e1 : 0 < x2
            · by_cases e2 : x2 ≤ g
              · have hs2 : tellC g (l.take (j + 1)) k = tellC g (l.take j) k ++ [x1] := by rw [hs]; simp [e0, e1, e2]
                have e0' : k = x0 := e0.symm
                clear e0
                subst e0'
                generalize hTT : tell3 g l k ++ tellC g (l.take j) k = TT at *
                have hTl : TT.length ≤ 64 * 100000 + 100000 := by rw [← hTT, List.length_append]; omega
                have hT2 : tell3 g l k ++ tellC g (l.take (j + 1)) k = TT ++ [x1] := by rw [hs2, ← hTT, List.append_assoc]
                replace hTT := Lib.hid hTT
                replace hT2 := Lib.hid hT2
                replace hs2 := Lib.hid hs2
                replace hs := Lib.hid hs
                replace hX := Lib.hid hX
                replace hbe := Lib.hid hbe
                clear hb1 hb2
                go_wp2_with (at_builtin; refine app1 rfl _ _ 22 3 (.int .i64 0) 8 rfl Try.underlying22 infoI11 rfl W.heap.size _ _ _ rfl hrow _ rfl rfl (by unfold maxLen; omega) (by omega) hsz ?_; intro gq capq w1 hown' hgrow hbel)
                have hrow2 : w1.ownsRow W.heap.size 3 1 (.slice (some ⟨gq, 0, none⟩) (TT.length + 1) capq) (tell3 g l k ++ tellC g (l.take (j + 1)) k).length ((tell3 g l k ++ tellC g (l.take (j + 1)) k).map (Value.int .i64)) := by rw [hT2.out]; simpa using hown'
                have hX2 : Box2 w B R n last (.slice (some ⟨b, off, none⟩) l.length cap) w1 := ⟨hX.out.b.below hbel hBl, hX.out.r.below hbel hRl, Below.trans hX.out.k (Below.mono hbel hwW), hX.out.new⟩
                have hbe2 := Below.trans hbe.out hbel
                replace hrow2 := Lib.hid hrow2
                replace hX2 := Lib.hid hX2
                replace hbe2 := Lib.hid hbe2
                clear hown' hgrow hbel hrow hX hbe
                go_wp2_with fail
                go_roundw
                case rel => exact ⟨j + 1, by omega, by go_num, hrow2.out, hbe2.out, hX2.out⟩
                case measure => (simp [intOf]; try omega)
              · skip
                have hs2 : tellC g (l.take (j + 1)) k = tellC g (l.take j) k := by rw [hs]; simp [e0, e1, e2]
                have hrow2 := hrow
                rw [← hs2] at hrow2
                have e0' : k = x0 := e0.symm
                clear e0
                subst e0'
                replace hrow2 := Lib.hid hrow2
                replace hs2 := Lib.hid hs2
                replace hs := Lib.hid hs
                replace hX := Lib.hid hX
                replace hbe := Lib.hid hbe
                clear hb1 hb2 hrow
                go_wp2_with fail
                go_roundw
                case rel => exact ⟨j + 1, by omega, by go_num, hrow2.out, hbe.out, hX.out⟩
                case measure => (simp [intOf]; try omega)
            · skip
              have hs2 : tellC g (l.take (j + 1)) k = tellC g (l.take j) k := by rw [hs]; simp [e0, e1]
              have hrow2 := hrow
              rw [← hs2] at hrow2
              have e0' : k = x0 := e0.symm
              clear e0
              subst e0'
              replace hrow2 := Lib.hid hrow2
              replace hs2 := Lib.hid hs2
              replace hs := Lib.hid hs
              replace hX := Lib.hid hX
              replace hbe := Lib.hid hbe
              clear hb1 hb2 hrow
              go_wp2_with fail
              go_roundw
              case rel => exact ⟨j + 1, by omega, by go_num, hrow2.out, hbe.out, hX.out⟩
              case measure => (simp [intOf]; try omega)
          · skip
            have hs2 : tellC g (l.take (j + 1)) k = tellC g (l.take j) k := by rw [hs]; simp [e0]
            have hrow2 := hrow
            rw [← hs2] at hrow2
            have t0 : (x0 == k) = false := by simpa using e0
            have t1 : decide (x0 = k) = false := by simpa using e0
            have t2 : ((x0 : Int) == (k : Int)) = false := by rw [beq_eq_false_iff_ne]; omega
            replace hrow2 := Lib.hid hrow2
            replace hs2 := Lib.hid hs2
            replace hs := Lib.hid hs
            replace hX := Lib.hid hX
            replace hbe := Lib.hid hbe
            clear hb1 hb2 hrow
            go_wp2_with fail
            go_roundw
            case rel => exact ⟨j + 1, by omega, by go_num, hrow2.out, hbe.out, hX.out⟩
            case measure => (simp [intOf]; try omega)
        · obtain rfl : j = l.length := by omega
          have hts := tell3_succ g l k
          rw [List.take_length, ← hts] at hrow
          replace hrow := Lib.hid hrow
          replace hX := Lib.hid hX
          replace hbe := Lib.hid hbe
          replace hts := Lib.hid hts
          go_wp2_with fail
          go_roundw
          case rel => exact ⟨k + 1, by omega, by go_num, hrow.out, hbe.out, hX.out⟩
          case measure => (simp [intOf]; try omega)
    · obtain rfl : k = n := by omega
      have hltI : ¬ (k : Int) < (k : Int) := by omega
      obtain ⟨q6, cap6, rfl⟩ := ownsRow_any hrow
      have hint : Ints wo (.slice q6 (tell3 g l k).length cap6) (tell3 g l k) := slc_of_row hrow
      have hown := row_own hrow
      have hsz := hbe.size
      replace hint := Lib.hid hint
      replace hown := Lib.hid hown
      replace hX := Lib.hid hX
      clear hrow hbe
      go_wp2_with fail
      go_loopw [9, 10] (fun y i wr => ∃ j : Nat, j ≤ l.length ∧ i = .int .i64 (j : Int) ∧ RowS 3 wo.heap.size 55 wr y ((left3 g (l.take j)).map rc) ∧ Below wo.heap.size wo wr ∧ Box2 w B R k last (.slice p l.length cap) wr) (fun _ i _ => l.length - (intOf i).toNat)
      case atStart => exact ⟨0, Nat.zero_le _, rfl, RowS.nil _ _ _ _, Below.refl _ _, hX.out⟩
      case round =>
        clear hX z0
        obtain ⟨j, hj, rfl, hrow, hbe, hX⟩ := hrel
        have z0 := hX.b.cell 0 (by simp [lsC])
        have z1 := hX.b.cell 1 (by simp [lsC])
        have z2 := hX.b.cell 2 (by simp [lsC])
        simp only [lsC, List.getElem_cons_zero, List.getElem_cons_succ] at z0 z1 z2
        obtain ⟨q1, cap1, rfl⟩ := hrow.any
        have hlen : ((left3 g (l.take j)).map rc).length = (left3 g (l.take j)).length := List.length_map _
        have hll := left3_len g (l.take j)
        rw [List.length_take] at hll
        rw [hlen] at hrow ⊢
        by_cases hjl : j < l.length
        · have hjlI := Int.ofNat_lt.2 hjl
          obtain ⟨_, _, hq, _, _, hcell⟩ := (hv.out.keeps hX.k).get
          obtain ⟨b, off, hp, y0, y1, y2⟩ := hcell j hjl
          simp only [Value.slice.injEq] at hq
          obtain rfl : p = some ⟨b, off, none⟩ := hq.1.trans hp
          clear hq hp hcell
          have hs := left3_succ g l j hjl
          unfold lf3 at hs
          generalize l[j] = x at *
          obtain ⟨x0, x1, x2⟩ := x
          simp only at y0 y1 y2 hs
          by_cases ht : x2 = 0 ∨ g < x2
          · have hs2 : left3 g (l.take (j + 1)) = left3 g (l.take j) ++ [(x0, x1, x2)] := by
              rw [hs]; congr 1
              rw [if_pos (by simpa using ht)]
            have ht2 : (x2 = 0) ∨ (x2 ≠ 0 ∧ g < x2) := by omega
            clear hs ht
            have hsrc2 : SlcS 3 (wr.alloc (.cells (rc (x0, x1, x2)).toArray 55)) (.slice (some ⟨wr.heap.size, 0, none⟩) 1 1) ([((x0, x1, x2) : C3)].map rc) := slcs_one (Blk.new wr _ _) rfl
            have hrow2 := hrow.alloc (.cells (rc (x0, x1, x2)).toArray 55)
            have hB1 := Keeps.alloc wr (.cells (rc (x0, x1, x2)).toArray 55)
            have hsz2 := hbe.size
            obtain ⟨NL, hNL⟩ : ∃ x, x = (left3 g (l.take j)).length := ⟨_, rfl⟩
            rw [← hNL] at hlen hrow2 hll ⊢
            replace hsrc2 := Lib.hid hsrc2
            replace hrow2 := Lib.hid hrow2
            replace hB1 := Lib.hid hB1
            replace hbe := Lib.hid hbe
            replace hX := Lib.hid hX
            replace hlen := Lib.hid hlen
            replace hs2 := Lib.hid hs2
            replace hNL := Lib.hid hNL
            clear hrow
            have key : ∀ v2 W4, RowS 3 wo.heap.size 55 W4 v2 ((left3 g (l.take j)).map rc ++ [((x0, x1, x2) : C3)].map rc) → Below wo.heap.size (wr.alloc (.cells (rc (x0, x1, x2)).toArray 55)) W4 →
                RowS 3 wo.heap.size 55 W4 v2 ((left3 g (l.take (j + 1))).map rc) ∧ Below wo.heap.size wo W4 ∧ Box2 w B R k last (.slice (some ⟨b, off, none⟩) l.length cap) W4 := fun v2 W4 h1 h2 => by
              have hbe4 : Below wo.heap.size wr W4 := Below.trans (Below.mono hB1.out hsz2) h2
              refine ⟨by rw [hs2.out, List.map_append]; exact h1, Below.trans hbe.out hbe4, ⟨hX.out.b.below hbe4 (by omega), hX.out.r.below hbe4 (by omega), Below.trans hX.out.k (Below.mono hbe4 (by omega)), hX.out.new⟩⟩
            replace key := Lib.hid key
            rcases ht2 with rfl | ⟨e1, e2⟩
            · go_wp2_with (at_builtin; refine appN rfl _ _ 39 55 _ 3 24 rfl Try.underlying39 infoRC rfl (by decide) wo.heap.size _ _ rfl hrow2.out _ _ rfl hsrc2.out (rc_one [((x0, x1, 0) : C3)]) ?d1 ?d2 ?d3 ?_)
              case d1 => have := hlen.out; rw [this]; simp; unfold maxLen; omega
              case d2 => have := hlen.out; rw [this]; simp; omega
              case d3 => (simp only [World.size_alloc]; omega)
              intro v2 W4 hrow3 _ hbel
              have hkk := Lib.hid (key.out v2 W4 hrow3 hbel)
              clear hrow3 hbel
              go_wp2_with fail
              go_roundw
              case rel => exact ⟨j + 1, by omega, by go_num, hkk.out.1, hkk.out.2.1, hkk.out.2.2⟩
              case measure => (simp [intOf]; try omega)
            · have e3 : (x2 == 0) = false := by simpa using e1
              replace e1 := Lib.hid e1
              go_wp2_with (at_builtin; refine appN rfl _ _ 39 55 _ 3 24 rfl Try.underlying39 infoRC rfl (by decide) wo.heap.size _ _ rfl hrow2.out _ _ rfl hsrc2.out (rc_one [((x0, x1, x2) : C3)]) ?f1 ?f2 ?f3 ?_)
              case f1 => have := hlen.out; rw [this]; simp; unfold maxLen; omega
              case f2 => have := hlen.out; rw [this]; simp; omega
              case f3 => (simp only [World.size_alloc]; omega)
              intro v2 W4 hrow3 _ hbel
              have hkk := Lib.hid (key.out v2 W4 hrow3 hbel)
              clear hrow3 hbel
              go_wp2_with fail
              go_roundw
              case rel => exact ⟨j + 1, by omega, by go_num, hkk.out.1, hkk.out.2.1, hkk.out.2.2⟩
              case measure => (simp [intOf]; try omega)
          · have hs2 : left3 g (l.take (j + 1)) = left3 g (l.take j) := by
              rw [hs, if_neg (by simpa using ht), List.append_nil]
            generalize (left3 g (l.take j)).length = NL at hrow hlen hll ⊢
            have hrow2 := hrow
            rw [← hs2] at hrow2
            have e1 : x2 ≠ 0 := by omega
            have e2 : ¬ g < x2 := by omega
            have e3 : (x2 == 0) = false := by simpa using e1
            clear hs ht
            replace e1 := Lib.hid e1
            replace hrow2 := Lib.hid hrow2
            replace hs2 := Lib.hid hs2
            replace hX := Lib.hid hX
            replace hbe := Lib.hid hbe
            replace hlen := Lib.hid hlen
            clear hrow hll
            go_wp2_with fail
            go_roundw
            case rel => exact ⟨j + 1, by omega, by go_num, hrow2.out, hbe.out, hX.out⟩
            case measure => (simp [intOf]; try omega)
        · obtain rfl : j = l.length := by omega
          rw [List.take_length] at *
          have hjlI : ¬ (l.length : Int) < (l.length : Int) := by omega
          have hfin := hX.fin (n2 := k) (last2 := last) (u := .slice q1 (left3 g l).length cap1)
          have hC : Chg (fun x => x = R) wr (wr.setRow R (lsC k last (.slice q1 (left3 g l).length cap1)).toArray) := Chg.setRow _ rfl
          have hfr : FreshV w (.slice q1 (left3 g l).length cap1) := hrow.fresh (Nat.le_trans hwW hsz)
          have hfy : FreshV w (.slice q6 (tell3 g l k).length cap6) := fun b e => Nat.le_trans hwW (hown.out b e).1
          have hrf : Cs3 (wr.setRow R (lsC k last (.slice q1 (left3 g l).length cap1)).toArray) (.slice q1 (left3 g l).length cap1) (left3 g l) :=
            (hrow.chg hC (fun b hb e => by omega)).cs3
          have hif : Ints (wr.setRow R (lsC k last (.slice q1 (left3 g l).length cap1)).toArray) (.slice q6 (tell3 g l k).length cap6) (tell3 g l k) :=
            Slc.chg (Slc.below hint.out hbe) hC (fun b hb e => by have := (hown.out b hb).1; omega)
          generalize (left3 g l).length = NL at *
          generalize (tell3 g l k).length = NT at *
          replace hfin := Lib.hid hfin
          replace hrf := Lib.hid hrf
          replace hfr := Lib.hid hfr
          replace hfy := Lib.hid hfy
          replace hif := Lib.hid hif
          replace hX := Lib.hid hX
          replace hlen := Lib.hid hlen
          replace hbe := Lib.hid hbe
          clear hrow hC hll
          go_wp2_with (refine storeL hX.out.r rfl rfl _ _ rfl rfl rfl rfl ?_)
          refine bodyPost_ret (results_row_slot rfl _ hfin.out.1 rfl _ Try.underlying41 rfl 3 size11 rfl) rfl ⟨.slice q1 NL cap1, .slice q6 NT cap6, rfl, hrf.out, hif.out, hfr.out, hfy.out, hfin.out.2⟩
end Go.Proofs.Ytllnncojafcdoaa
