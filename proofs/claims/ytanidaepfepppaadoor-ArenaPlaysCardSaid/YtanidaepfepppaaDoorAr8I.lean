/- Arenas of integers: the handles of all things. -/
import Derived.Test.YtanidaepfepppaaDoorAr7I
import Derived.Test.YtanidaepfepppaaDoorIterG
import Derived.Test.YtanidaepfepppaaDoorLaw03
namespace Go.Proofs.YtanidaepfepppaaDoor.ArI
open Go.RowKit Go.Proofs.YtanidaepfepppaaDoor Go.Shelf
attribute [local go_sem] Oper.semAt_some

/-- The handles of all things, by slot. -/
def liveOf (l : List (Slot El)) (k : Nat) : Int × Int := ((k : Int), (((l[k]?).map (·.gen)).getD 0 : Nat))
def liveL (l : List (Slot El)) : List (Int × Int) := (listN (usedM l)).map (liveOf l)
set_option maxHeartbeats 400000 in
theorem allA_any (q0 : Option Addr) (w : World) :
    Calls Tryd.prog 36 #[.pointer q0] w fun e w' => e = .returned (.func (.func 42) #[] #[.pointer (some ⟨w.heap.size, 0, none⟩)]) ∧ w.alloc (.cells #[.pointer q0] 43) = w' := by
  go_enter Tryd.func36, Tryd.ntmps36
  go_wp2
  go_ret
  exact ⟨rfl, rfl⟩
theorem used_at {l : List (Slot El)} (i : Nat) (hm : i ∈ listN (usedM l)) : ∃ hi : i < l.length, l[i].used = true := by
  have h2 := ((mem_listN (usedM l) _).1 hm).2
  unfold usedM at h2
  rw [testBit_wordB] at h2
  simp only [List.getD, List.getElem?_map] at h2
  by_cases hi : i < l.length
  · exact ⟨hi, by simpa [List.getElem?_eq_getElem hi] using h2⟩
  · rw [List.getElem?_eq_none (by omega)] at h2; simp at h2
set_option maxRecDepth 100000 in
set_option maxHeartbeats 2000000 in
/-- **all's function.** -/
theorem allA1_in (l B n₀ O p b : Nat) (la : List (Slot El)) (J Jx : List Nat → World → Prop) (W : World)
    (hY : ∀ pre x W1, J pre W1 → pre.length < (listN (usedM la)).length → YieldAt Fence.wide 7 Tryd.prog l #[.agg #[.int .i64 (liveOf la x).1, .int .i64 (liveOf la x).2]] W1 fun e W' =>
      (e = .returned (.bool true) ∧ J (pre ++ [x]) W' ∧ KeepR n₀ O W1 W') ∨ (e = .returned (.bool false) ∧ Jx (pre ++ [x]) W'))
    (hJk : ∀ pre W1 W2, J pre W1 → Keeps W1 W2 → J pre W2)
    (hB : Boxed W B 43 (.pointer (some ⟨p, 0, none⟩))) (haB : ApartR W O B) (hap : ApartR W O p) (hab : ApartR W O b)
    (hOl : O < W.heap.size) (hOv : ∀ v, W.cell? ⟨O, 0, none⟩ = some v → ∀ r, v.ownBlock = some r → r < W.heap.size) (hn : n₀ ≤ W.heap.size) (hA : ArenaAt W p b la) (hT : TabAt W) (h0 : J [] W) :
    CallsIn Fence.wide 8 Tryd.prog 42 #[.func (.yield l) #[] #[], .pointer (some ⟨B, 0, none⟩)] W fun e W' => (∃ v, e = .returned v) ∧
      ((∃ ys, ys = listN (usedM la) ∧ J ys W') ∨ (∃ pre, pre <+: listN (usedM la) ∧ Jx pre W')) := by
  have hBc := hB.cell
  have c1 := hA.c1
  have hl64 := listN_len (usedM la)
  refine callsIn_of_wp Tryd.func42 rfl trivial ?_ rfl
  simp only [Tryd.ntmps42, List.size_toArray, List.length_cons, List.length_nil, Nat.reduceAdd, Nat.reduceSub, Array.replicate_succ, Array.replicate_zero, List.push_toArray, List.append_toArray, List.nil_append, List.cons_append]
  gi_wp2
  refine ⟨trivial, (callsIn_wide.2 (list_any (usedM la) W hA.usedLt hT)).mono ?_⟩
  rintro e W1 ⟨v, rfl, hrow, hK⟩
  have hSl := slc_of_row hrow
  have hkr : KeepR n₀ O W W1 := KeepR.of_keeps hK hn hOl
  have hav : ∀ c, v.ownBlock = some c → ApartR W1 O c ∧ c < W1.heap.size := fun c hc => by
    obtain ⟨h1, h2⟩ := row_own hrow c hc
    refine ⟨⟨by omega, fun u hu he => ?_⟩, h2⟩
    have := hOv u (by rw [← hu]; exact (hK.cell (p := ⟨O, 0, none⟩) hOl).symm) c he
    omega
  obtain ⟨q, cap, rfl, hl, hc, _, _⟩ := id hSl
  rw [natInts_len] at hl
  unfold maxLen at hc
  have hA1 := hA.keeps hK
  have hJ1 := hJk [] W W1 h0 hK
  have hB1 := hkr.boxed hB haB
  have haB1 := hkr.apart haB hB.lt
  have hap1 := hkr.apart hap hA.hdr.lt
  have hab1 := hkr.apart hab hA.buf.lt
  have hn1 : n₀ ≤ W1.heap.size := Nat.le_trans hn hK.size
  have hO1 : O < W1.heap.size := Nat.lt_of_lt_of_le hOl hK.size
  have hlo := hA.lo
  have hhi := hA.hi
  have hin := fun i (hi : i ∈ listN (usedM la)) => used_at (l := la) i hi
  have hok := hA.ok
  rw [natInts_len]
  generalize hL : listN (usedM la) = L at *
  replace hL := Lib.hid hL
  replace hin := Lib.hid hin
  replace hSl := Lib.hid hSl
  replace hav := Lib.hid hav
  replace hY := Lib.hid hY
  replace hJk := Lib.hid hJk
  replace hA1 := Lib.hid hA1
  replace hB1 := Lib.hid hB1
  replace haB1 := Lib.hid haB1
  replace hap1 := Lib.hid hap1
  replace hab1 := Lib.hid hab1
  replace hok := Lib.hid hok
  clear hrow hK hkr hA hB haB hap hab hOv hT h0 hBc c1
  gi_wp2
  gi_loopw [11] (fun i wr => ∃ k : Nat, k ≤ L.length ∧ i = .int .i64 k ∧ KeepR n₀ O W1 wr ∧ J (L.take k) wr) (fun i _ => L.length - (intOf i).toNat)
  case atStart => exact ⟨0, Nat.zero_le _, rfl, KeepR.refl hn1 hO1, by rw [List.take_zero]; exact hJ1⟩
  case round =>
    clear hJ1
    obtain ⟨k, hk, rfl, hKR, hJs⟩ := hrel
    have hkl : k < L.length ∨ k = L.length := by omega
    rcases hkl with hlt | rfl
    · have hAr : ArenaAt wr p b la := ⟨hKR.blk hA1.out.hdr hap1.out, hKR.blk hA1.out.buf hab1.out, hA1.out.ne, hlo, hhi, hok.out⟩
      obtain ⟨q', cap', hv', _, _, _, hcell⟩ := hKR.slc hSl.out (fun c hc _ => (hav.out c hc).1)
      obtain ⟨bb, off, hp, hcr⟩ := hcell k (by rw [natInts_len]; exact hlt)
      have hq : q = some ⟨bb, off, none⟩ := by simp at hv'; rw [hv'.1]; exact hp
      subst hq
      replace hcr : wr.cell? ⟨bb, off + k, none⟩ = some (.int .i64 (L[k] : Nat)) := by rw [hcr]; simp [natInts, List.getD, hlt]
      obtain ⟨hi, hu⟩ := hin.out L[k] (List.getElem_mem hlt)
      have hsc : L.take (k + 1) = L.take k ++ [L[k]] := List.take_succ_eq_append_getElem hlt
      have hpr : L.take (k + 1) <+: L := List.take_prefix _ _
      rw [hsc] at hpr
      have hy0 := hY.out (L.take k) L[k] wr hJs (by rw [List.length_take]; omega)
      have hg := hok.out.used _ (List.getElem_mem hi) hu
      have s0 := hAr.slot L[k] hi 0 (by decide)
      have s1 := hAr.slot L[k] hi 1 (by decide)
      have c0 := hAr.c0
      have cB := (hKR.boxed hB1.out haB1.out).cell
      unfold liveOf at hy0
      rw [List.getElem?_eq_getElem hi] at hy0
      simp only [slotEl, xCells, Nat.add_zero, List.cons_append, List.nil_append, List.getD_cons_zero, List.getD_cons_succ, Option.map_some, Option.getD_some] at s0 s1 hy0
      rw [show ((min la[L[k]].gen 255 : Nat) : Int) = (la[L[k]].gen : Int) by omega] at s1
      have hiI : ((L[k] : Nat) : Int) < (la.length : Int) := by omega
      have hi0 : (0 : Int) ≤ ((L[k] : Nat) : Int) := by omega
      generalize hG : la[L[k]].gen = G at *
      generalize hr : L[k] = r at *
      replace hsc := Lib.hid hsc
      replace hpr := Lib.hid hpr
      replace hKR := Lib.hid hKR
      replace hG := Lib.hid hG
      replace hr := Lib.hid hr
      clear hcell hv' hp hAr hu hg hJs
      have hltI := Int.ofNat_lt.2 hlt
      obtain ⟨fn, tmps, assign, body, hy, hRd⟩ := hy0
      replace hRd := Lib.hid hRd
      gi_wp2
      refine hRd.out.mono ?_
      rintro e W3 (⟨rfl, hJ3, hk3⟩ | ⟨rfl, hJx3⟩)
      · gi_wp2
        go_roundw
        case rel => exact ⟨k + 1, by omega, by go_num, hKR.out.trans hk3, by rw [hsc.out]; exact hJ3⟩
        case measure => (simp [intOf]; try omega)
      · gi_wp2
        refine bodyPost_ret (results_none rfl _ _ _) rfl ?_
        exact ⟨⟨_, rfl⟩, .inr ⟨_, by rw [hL.out]; exact hpr.out, hJx3⟩⟩
    · rw [List.take_of_length_le (Nat.le_refl _)] at hJs
      gi_wp2
      go_end0
      exact ⟨⟨_, rfl⟩, .inl ⟨L, hL.out.symm, hJs⟩⟩
theorem allA_stops (B n₀ O p b : Nat) (la : List (Slot El)) (w : World) (hB : Boxed w B 43 (.pointer (some ⟨p, 0, none⟩))) (hBO : B ≠ O) (hpO : p ≠ O) (hbO : b ≠ O) (hOl : O < w.heap.size) (hOv : w.cell? ⟨O, 0, none⟩ = some (.slice none 0 0)) (hn : n₀ ≤ w.heap.size) (hA : ArenaAt w p b la) (hT : TabAt w) :
    SeqStopsK Fence.wide 8 Tryd.prog 42 #[.pointer (some ⟨B, 0, none⟩)] (fun x : Nat => #[.agg #[.int .i64 (liveOf la x).1, .int .i64 (liveOf la x).2]]) (KeepR n₀ O) (fun ys => ys = listN (usedM la)) (fun pre => pre <+: listN (usedM la)) (listN (usedM la)).length w := fun l J Jx W hW hJ _ hY h0 => by
  have hOW : W.cell? ⟨O, 0, none⟩ = some (.slice none 0 0) := (hW.cell (p := ⟨O, 0, none⟩) hOl).trans hOv
  have hap : ∀ k, k ≠ O → ApartR W O k := fun k hk => ⟨hk, fun v hv => by rw [hOW] at hv; cases hv; simp [Value.ownBlock]⟩
  exact allA1_in l B n₀ O p b la J Jx W hY (fun pre W1 W2 h hk => hJ pre W1 _ none h (keeps_grown hk) (fun r e => by cases e))
    ((hW.block B hB.lt).trans hB) (hap B hBO) (hap p hpO) (hap b hbO) (Nat.lt_of_lt_of_le hOl hW.size) (fun v hv r hr => by rw [hOW] at hv; cases hv; simp [Value.ownBlock] at hr) (Nat.le_trans hn hW.size) (hA.keeps hW) (hT.keeps hW) h0
theorem infoH : (Tryd.prog.info? 34).map (fun i => (i.zero, i.size, i.bytes)) = some (some (.agg (hEl (0, 0)).toArray), 2, 16) := by kernel_rfl
theorem hEl_one (z : Int × Int) : ∀ y ∈ hEl z, y.oneCell' = true := by
  intro y hy
  simp only [hEl, List.mem_cons, List.not_mem_nil, or_false] at hy
  rcases hy with rfl | rfl <;> rfl
/-- A slice's row as it lies behind the call. -/
abbrev HandlesAt (base : Nat) (w : World) (v : Value) (zs : List (Int × Int)) : Prop := RowS 2 base 34 w v (zs.map hEl)
set_option maxRecDepth 100000 in
set_option maxHeartbeats 2000000 in
/-- **Live**, in new memory. -/
theorem live_any {w : World} {p b : Nat} {la : List (Slot El)} (hA : ArenaAt w p b la) (hT : TabAt w) :
    Calls Tryd.prog 26 #[.pointer (some ⟨p, 0, none⟩)] w fun e w' => ∃ v, e = .returned v ∧ HandlesAt w.heap.size w' v (liveL la) ∧ Keeps w w' := by
  have hpl := hA.hdr.lt
  have hbl := hA.buf.lt
  refine (callsIn_wide (n := 9)).1 ?_
  refine callsIn_of_wp_marks Tryd.func26 rfl trivial ?_ rfl
  simp only [Tryd.ntmps26, List.size_toArray, List.length_cons, List.length_nil, Nat.reduceAdd, Nat.reduceSub, Array.replicate_succ, Array.replicate_zero, List.push_toArray, List.append_toArray, List.nil_append, List.cons_append]
  gi_wp2_with (refine ⟨trivial, ?_⟩; gi_at_call 36; refine (callsIn_wide.2 (allA_any _ _)).mono ?_; rintro e w' ⟨rfl, rfl⟩)
  have bO := Boxed.new w 31 (.slice none 0 0)
  have bM := Boxed.new (w.alloc (.cells #[.slice none 0 0] 31)) 43 (.pointer (some ⟨p, 0, none⟩))
  rw [World.size_alloc] at bM
  have hB0 : Keeps w ((w.alloc (.cells #[.slice none 0 0] 31)).alloc (.cells #[.pointer (some ⟨p, 0, none⟩)] 43)) := (Keeps.alloc _ _).trans (Keeps.alloc _ _)
  have hsz : ((w.alloc (.cells #[.slice none 0 0] 31)).alloc (.cells #[.pointer (some ⟨p, 0, none⟩)] 43)).heap.size = w.heap.size + 2 := by simp
  refine iter_ruleH w (KeepR w.heap.size w.heap.size) KeepR.trans (fun W l o o' hl hlo hc _ => KeepR.putObj hlo hc (by omega) (by omega)) (gf := 42) (lb := #[.pointer (some ⟨w.heap.size + 1, 0, none⟩)]) rfl (enters_of Tryd.func42 (by kernel_rfl) rfl)
    (allA_stops (w.heap.size + 1) w.heap.size w.heap.size p b la _ bM (by omega) (by omega) (by omega) (by omega) (bO.alloc _).cell (by omega) (hA.keeps hB0) (hT.keeps hB0)) (Below.refl _ _) hB0 (fun _ => rfl)
    (fun pre W => ∃ v, Boxed W w.heap.size 31 v ∧ HandlesAt (w.heap.size + 1) W v (pre.map (liveOf la)) ∧ w.heap.size + 2 ≤ W.heap.size)
    (fun c pre W => False)
    (fun pre => Stays.ex fun v => (Stays.boxed _ _ _ _).and ((Stays.and Stays.row (Stays.pure _ _)).and (Stays.size _ _)))
    (fun c pre => Stays.pure _ _)
    ⟨_, bO.alloc _, RowS.nil _ _ _ _, by omega⟩
    (fun x a' W => ∃ B, w.heap.size + 2 ≤ B ∧ Blk W B 34 (hEl (liveOf la x)) ∧ a' = { tmps := #[.pointer (some ⟨p, 0, none⟩), undef, .slice none 0 0, .pointer (some ⟨w.heap.size, 0, none⟩), .pointer (some ⟨B, 0, none⟩), .pointer (some ⟨p, 0, none⟩), .bool false, .pointer (some ⟨p, 0, none⟩), .func (.func 42) #[] #[.pointer (some ⟨w.heap.size + 1, 0, none⟩)], .agg #[.int .i64 (liveOf la x).1, .int .i64 (liveOf la x).2], undef, undef, undef, undef, undef], defers := [] })
    (fun x a' => Stays.ex fun B => (Stays.pure _ _).and ((Stays.blk _ _ _ _).and (Stays.pure _ _)))
    ?assign ?body ?done ?stop
  case assign =>
    rintro l pre x W K hb ⟨v, hv, hrow, hsz2⟩ hK
    have hk : Keeps W (W.alloc (.cells (hEl (liveOf la x)).toArray 34)) := Keeps.alloc _ _
    have hbs := hb.size
    have hvl := hv.lt
    gi_wp2
    refine hK _ _ (keepsFrom_keeps hk) (KeepR.of_keeps hk hbs hvl) (below_of_keeps hk hbs) ⟨v, hv.alloc _, hrow.alloc _, by simp; omega⟩ ⟨W.heap.size, hsz2, Blk.new _ _ _, rfl⟩
  case body =>
    rintro l pre x a' W hb hlt ⟨v, hv, hrow, hsz2⟩ ⟨B, hBB, hBx, rfl⟩
    have hc := hv.cell
    have x0 := hBx.cell 0 (by simp [hEl])
    have x1 := hBx.cell 1 (by simp [hEl])
    simp only [hEl, List.getElem_cons_zero, List.getElem_cons_succ] at x0 x1
    have hbs := hb.size
    have hvl := hv.lt
    have hml : ((pre.map (liveOf la)).map hEl).length = pre.length := by simp
    have hl64 := listN_len (usedM la)
    gi_wp2_with (gi_at_builtin; refine appOneIn rfl _ _ 31 34 _ 2 16 rfl Tryd.underlying31 infoH rfl (by decide) (w.heap.size + 1) _ _ rfl hrow (hEl (liveOf la x)) rfl rfl (hEl_one _) ?c1 ?c2 ?c3 ?_)
    case c1 => rw [hml]; unfold maxLen; omega
    case c2 => rw [hml]; omega
    case c3 => omega
    intro g2 cap2 W1 hrow2 hgrow hbel hat
    obtain ⟨W2, hW2⟩ : ∃ W2, W2 = W1.setCell ⟨w.heap.size, 0, none⟩ (.slice (some ⟨g2, 0, none⟩) (pre.length + 1) cap2) := ⟨_, rfl⟩
    have hne : v.ownBlock ≠ some w.heap.size := fun e => by have := hrow.own _ e; omega
    have hv1 : Boxed W1 w.heap.size 31 v := (hv.alloc _).kept hgrow (fun e => hne e.symm)
    have hc1 := hv1.cell
    have hf1 := hv1.frozen
    have hbel1 : Below w.heap.size W W1 := Below.mono hbel (by omega)
    have hat1 : (Value.slice (some ⟨g2, 0, none⟩) (pre.length + 1) cap2).ownBlock = v.ownBlock ∨ ∀ r, (Value.slice (some ⟨g2, 0, none⟩) (pre.length + 1) cap2).ownBlock = some r → W.heap.size ≤ r := by
      rcases hat with h | h
      · exact .inl h.symm
      · exact .inr fun r e => by simp [Value.ownBlock] at e; omega
    have hkr : KeepR w.heap.size w.heap.size W W2 := KeepR.appended hv hgrow hbel1 (Nat.le_refl _) hat1 hW2 (by rw [hc1]; rfl)
    have hrow3 : HandlesAt (w.heap.size + 1) W2 (.slice (some ⟨g2, 0, none⟩) (pre.length + 1) cap2) ((pre ++ [x]).map (liveOf la)) := by
      rw [hW2]
      refine RowS.chg (S := (· = w.heap.size)) ?_ (Chg.setCell _ _ rfl) (fun b hb hs => by omega)
      simpa [List.map_append, List.map_map] using hrow2
    have hv2 : Boxed W2 w.heap.size 31 (.slice (some ⟨g2, 0, none⟩) (pre.length + 1) cap2) := by rw [hW2]; exact hv1.set _
    have hko : KeepsOthers W W2 := by rw [hW2]; exact keepsOthers_appended hrow hgrow _ _
    have hbel2 : Below w.heap.size W W2 := hkr.below
    have hs2 : w.heap.size + 2 ≤ W2.heap.size := Nat.le_trans hsz2 hbel2.size
    replace hW2 := Lib.hid hW2
    replace hkr := Lib.hid hkr
    replace hrow3 := Lib.hid hrow3
    replace hv2 := Lib.hid hv2
    replace hko := Lib.hid hko
    clear hrow2 hgrow hbel hrow hv hat hat1 hc x0 x1
    gi_wp2
    rw [← hW2.out]
    exact ⟨⟨hko.out.from _, hbel2, _, hv2.out, hrow3.out, hs2⟩, hkr.out⟩
  case done =>
    rintro D W hD hb ⟨v, hv, hrow, hsz2⟩ hK
    have hc := hv.cell
    gi_wp2
    refine ret_marks hK rfl (v := v) ?_ ⟨v, rfl, ?_, hb.putObj _ (by omega) hK⟩
    · exact results_tmp (fn := Tryd.f26) rfl _ _ _
    · exact RowS.base_le ⟨ownsRow_putObj hrow.1 _ hK rfl, hrow.2⟩ (by omega)
  case stop =>
    rintro D c pre W hD hpre hb h hK
    exact h.elim
end Go.Proofs.YtanidaepfepppaaDoor.ArI
