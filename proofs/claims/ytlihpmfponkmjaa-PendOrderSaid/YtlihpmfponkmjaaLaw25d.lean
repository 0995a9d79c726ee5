/- PendOrder: the walk. -/
import Derived.Test.YtlihpmfponkmjaaPendO
import Derived.Deep.DeepCutAuto
import Derived.Deep.RegionWith
namespace Go.Proofs.Ytlihpmfponkmjaa
open Go.RowKit i64

theorem updI_back (x : Nat) (a : Int) : updI (updI (fun _ => 0) x a) x 0 = fun _ => 0 := by
  funext k
  unfold updI
  split
  · rfl
  · rfl
/-- What holds while PendOrder goes: one queue, the table, the row. -/
structure ON (w : World) (p rb cap n c : Nat) (pp bb : Nat → Nat) (M B : Nat) (l' l : List Int) (f : Nat → Bool) (v : Value) (W : World) : Prop where
  pi : PI w p rb cap n pp bb (fun _ => 0) (fun _ => 0) (oneQ n c l') W
  tab : Blk W M 42 (rowB f)
  row : W.ownsRow B 3 1 v l.length (l.map (Value.int .i64))
  own : w.heap.size ≤ M
  base : w.heap.size ≤ B
  lowM : M < B
  lowF : ∀ k, Foot p rb n pp bb k → k < B
  apart : ¬ Foot p rb n pp bb M
theorem row_chg {S : Nat → Prop} {W W' : World} {base : Nat} {e : TypeId} {v : Value} {n : Nat} {xs : List Value} (h : W.ownsRow base e 1 v n xs) (hc : Chg S W W') (hs : ∀ b, v.ownBlock = some b → ¬ S b) : W'.ownsRow base e 1 v n xs := by
  refine ⟨h.1, ?_⟩
  rcases h.2 with h0 | ⟨g, cap, cur, hv, hb, hg, hr⟩
  · exact .inl h0
  · exact .inr ⟨g, cap, cur, hv, hb, (hc.block g ((Array.getElem?_eq_some_iff.1 hg).1) (hs g (by rw [hv]; rfl))).trans hg, hr⟩
section
variable {w W W' : World} {p rb cap n c M B : Nat} {pp bb : Nat → Nat} {l' l : List Int} {f : Nat → Bool} {v : Value} {x : Int}
theorem ON.turn (h : ON w p rb cap n c pp bb M B l' l f v W) {l2 : List Int} (hp : PI w p rb cap n pp bb (fun _ => 0) (fun _ => 0) (oneQ n c l2) W') (hC : Chg (Foot p rb n pp bb) W W') : ON w p rb cap n c pp bb M B l2 l f v W' :=
  ⟨hp, h.tab.chg hC h.apart, row_chg h.row hC (fun b hb hF => by have := (row_own h.row b hb).1; have := h.lowF b hF; omega), h.own, h.base, h.lowM, h.lowF, h.apart⟩
theorem ON.kept (h : ON w p rb cap n c pp bb M B l' l f v W) (hk : Keeps W W') : ON w p rb cap n c pp bb M B l' l f v W' := h.turn (h.pi.kept hk) (Chg.of_keeps hk)
theorem ON.add (h : ON w p rb cap n c pp bb M B l' l f v W) (hc : c < n) (x : Int) (hx : 0 ≤ x ∧ x < 256) (sb : Nat) (hsb : sb = W.heap.size) :
    Calls Try.prog 8 #[.pointer (some ⟨p, 0, none⟩), .int .i64 c, .slice (some ⟨sb, 0, none⟩) 1 1] (W.alloc (.cells #[.int .i64 x] 3)) fun e W' => e = .returned (.int .i64 (if x ∈ l' then 5 else 0)) ∧ ON w p rb cap n c pp bb M B (if x ∈ l' then l' else l' ++ [x]) l f v W' := by
  subst hsb
  have hk := h.kept (Keeps.alloc W (.cells #[.int .i64 x] 3))
  refine (padd_any hk.pi.at' hk.pi.ok c hc _ [x] (ints_one25 W x) (fun k hk2 _ hf => ?_)).mono ?_
  · have := h.pi.at'.foot_lt k hf
    simp [Value.ownBlock] at hk2
    omega
  · rintro e W' ⟨he, ha, ho, hC⟩
    rw [oneQ_add n c l' hc x hx] at he ha ho
    by_cases hm : x ∈ l'
    · rw [if_pos hm] at he ha ho ⊢
      rw [if_pos hm]
      exact ⟨he, hk.turn (hk.pi.chg ha ho hC) hC⟩
    · rw [if_neg hm] at he ha ho ⊢
      rw [if_neg hm]
      exact ⟨he, hk.turn (hk.pi.chg ha ho hC) hC⟩
theorem ON.push (h : ON w p rb cap n c pp bb M B l' l f v W) {g cap' : Nat} {x : Int} {w1 : World} (hown : w1.ownsRow B 3 1 (.slice (some ⟨g, 0, none⟩) (l.length + 1) cap') (l.length + 1) (l.map (Value.int .i64) ++ [.int .i64 x]))
    (hgrow : (W.alloc (.cells #[.int .i64 x] 3)).grownBy w1 v.ownBlock) : ON w p rb cap n c pp bb M B l' (l ++ [x]) f (.slice (some ⟨g, 0, none⟩) (l.length + 1) cap') w1 := by
  have hC : Chg (fun i => v.ownBlock = some i) W w1 := ⟨hgrow.os, hgrow.tape, hgrow.output, Nat.le_trans (by simp) hgrow.size, fun i hi hn => (hgrow.block i (by simp; omega) (fun e => hn e.symm)).trans (Below.heap_alloc _ _ _ hi)⟩
  have hbs : ∀ i, v.ownBlock = some i → B ≤ i := fun i hi => (row_own h.row i hi).1
  have hb := h.base
  refine ⟨⟨h.pi.at'.chg hC (fun k hk e => by have := hbs k e; have := h.lowF k hk; omega), h.pi.ok, h.pi.new, Chg.keeps hC h.pi.keeps (fun j hj hs => by have := hbs j hs; omega)⟩, h.tab.chg hC (fun e => by have := hbs M e; have := h.lowM; omega), ?_, h.own, h.base, h.lowM, h.lowF, h.apart⟩
  rw [List.length_append, List.length_singleton, List.map_append]
  exact hown
theorem ON.set (h : ON w p rb cap n c pp bb M B l' l f v W) (x : Nat) (b : Bool) {f' : Nat → Bool} (hf : ∀ j, j < 256 → (if j = x then b else f j) = f' j) : ON w p rb cap n c pp bb M B l' l f' v (W.setCell ⟨M, x, none⟩ (.bool b)) := by
  have hC : Chg (· = M) W (W.setCell ⟨M, x, none⟩ (.bool b)) := Chg.setCell _ _ rfl
  have hM := h.own
  refine ⟨⟨h.pi.at'.chg hC (fun k hk e => h.apart (e ▸ hk)), h.pi.ok, h.pi.new, Chg.keeps hC h.pi.keeps (fun j hj hs => by omega)⟩, ?_, row_chg h.row hC (fun i hi e => by have := (row_own h.row i hi).1; have := h.lowM; omega), h.own, h.base, h.lowM, h.lowF, h.apart⟩
  have := h.tab.set x (.bool b)
  rw [rowB_set, rowB_congr hf] at this
  exact this
theorem ON.del (h : ON w p rb cap n c pp bb M B l' l f v W) (hc : c < n) (x : Int) (Wq : World) (hkq : Keeps (W.alloc (.cells #[.int .i64 x] 3)) Wq) :
    Calls Try.prog 15 #[.pointer (some ⟨p, 0, none⟩), .slice (some ⟨W.heap.size, 0, none⟩) 1 1] Wq fun e W' => e = .returned (.int .i64 (if x ∈ l' then 1 else 0)) ∧ ON w p rb cap n c pp bb M B (l'.filter (· != x)) l f v W' := by
  have hk := (h.kept (Keeps.alloc W (.cells #[.int .i64 x] 3))).kept hkq
  refine (pdel_any hk.pi.at' hk.pi.ok _ [x] (Slc.below (ints_one25 W x) hkq) (fun k hk2 _ hf => ?_)).mono ?_
  · have := h.pi.at'.foot_lt k hf
    simp [Value.ownBlock] at hk2
    omega
  · rintro e W' ⟨he, ha, hC⟩
    rw [oneQ_delN n c l' hc x] at he
    rw [show delR (oneQ n c l') [x] = oneQ n c (l'.filter (· != x)) from oneQ_del n c l' hc x] at ha
    refine ⟨by rw [he]; split <;> rfl, hk.turn (hk.pi.chg ha ?_ hC) hC⟩
    rw [← oneQ_del n c l' hc x]
    exact hk.pi.ok.del1 x
theorem ON.begin (h : ON w p rb cap n c pp bb M B (x :: l') l f v W) (hc : c < n) (t : Nat) (ht : t < 32) :
    Calls Try.prog 10 #[.pointer (some ⟨p, 0, none⟩), .int .i64 c, .int .i64 t] W fun e W' => e = .returned (.tuple #[.int .i64 x, .int .i64 0]) ∧ Calls Try.prog 11 #[.pointer (some ⟨p, 0, none⟩), .int .i64 t] W' fun e2 W2 => e2 = .returned (.tuple #[.int .i64 x, .int .i64 0]) ∧ ON w p rb cap n c pp bb M B l' l f v W2 := by
  have hq0 : (oneQ n c (x :: l')).getD c [] = x :: l' := by rw [oneQ_getD n c _ hc, if_pos rfl]
  have hx := h.pi.ok.rng c x (by rw [hq0]; simp)
  obtain ⟨x, rfl⟩ : ∃ y : Nat, x = y := ⟨x.toNat, by omega⟩
  refine (begin_yes h.pi.at' c t x l' hc ht rfl (by omega) hq0 rfl).mono ?_
  rintro e W' ⟨he, ha, hC⟩
  refine ⟨he, ?_⟩
  have hok := h.pi.ok.pop hq0
  rw [oneQ_set] at ha hok
  have hp := h.pi.chg ha hok hC
  refine (pend_yes ha t x ht (by omega) (by simp [updI])).mono ?_
  rintro e2 W2 ⟨he2, ha2, hC2⟩
  rw [updI_back, updI_back] at ha2
  exact ⟨he2, h.turn (hp.chgP ha2 hok hC2) (hC.trans (hC2.mono fun _ _ hs => .inl hs))⟩
end
/-- The queue: what was added, without what was deleted. -/
def left (l : List Int) (D : Nat → Bool) : List Int := l.filter fun z => D z.toNat
theorem left_all {l : List Int} (h : ∀ z ∈ l, 0 ≤ z) : left l (fun j => decide ((j : Int) ∈ l)) = l := by
  unfold left
  rw [List.filter_eq_self]
  intro z hz
  have := h z hz
  show decide (((z.toNat : Nat) : Int) ∈ l) = true
  rw [show ((z.toNat : Nat) : Int) = z by omega]
  exact decide_eq_true hz
theorem left_del {l : List Int} (h : ∀ z ∈ l, 0 ≤ z) (D : Nat → Bool) (x : Nat) : (left l D).filter (· != (x : Int)) = left l (fun j => if j = x then false else D j) := by
  unfold left
  rw [List.filter_filter]
  apply List.filter_congr
  intro z hz
  have := h z hz
  by_cases e : z = (x : Int)
  · subst e; simp
  · have e2 : ¬ z.toNat = x := by omega
    simp [e, e2]
theorem left_mem {l : List Int} {D : Nat → Bool} (h : ∀ j, j < 256 → D j = true → (j : Int) ∈ l) (x : Nat) (hx : x < 256) : ((x : Int) ∈ left l D) ↔ D x = true := by
  unfold left
  rw [List.mem_filter]
  constructor
  · rintro ⟨_, h2⟩; simpa using h2
  · intro h2; exact ⟨h x hx h2, by simpa using h2⟩
theorem row_slice {w : World} {base : Nat} {e : TypeId} {v : Value} {n : Nat} {xs : List Value} (h : w.ownsRow base e 1 v n xs) : ∃ p cap, v = .slice p n cap := by
  rcases h.2 with ⟨rfl, e2⟩ | ⟨g, cap, cur, rfl, _⟩
  · obtain rfl : n = 0 := e2
    exact ⟨_, _, rfl⟩
  · exact ⟨_, _, rfl⟩
theorem left_drop {l : List Int} (D : Nat → Bool) {k : Nat} (hk : k < l.length) : left (l.drop k) D = if D (l[k].toNat) = true then l[k] :: left (l.drop (k + 1)) D else left (l.drop (k + 1)) D := by
  unfold left
  rw [List.drop_eq_getElem_cons hk, List.filter_cons]
theorem tmod32 (k : Nat) : (k : Int).tmod 32 = ((k % 32 : Nat) : Int) := by
  rw [Int.tmod_eq_emod_of_nonneg (by omega)]; rfl
theorem infoI25 : (Try.prog.info? 3).map (fun i => (i.zero, i.size, i.bytes)) = some (some (.int .i64 0), 1, 8) := by kernel_rfl
/-- No answer is yes. -/
def rowB0 : List Value := rowB fun _ => false
theorem zeroB (w : World) : (zeroValue 42).run Try.prog w = .ok (.agg rowB0.toArray) w := by kernel_rfl
set_option maxRecDepth 100000 in
set_option maxHeartbeats 4000000 in
theorem lawOrder_any (n0 c0 : Int) (v2 v3 : Value) (ids dl : List Int) (w : World) (hz : Ints w v2 ids) (hd : Ints w v3 dl) :
    Calls Try.prog 4 #[.int .i64 n0, .int .i64 c0, v2, v3] w fun e w' => e = .returned (.bool true) ∧ Keeps w w' := by
  obtain ⟨n5, hn5, en⟩ := wrap_mod n0 64 (by decide)
  have hkn := fun (W : World) => known25_any W
  obtain ⟨n, hn⟩ : ∃ n : Nat, n = 1 + n5 := ⟨_, rfl⟩
  have hnI : 1 + (n5 : Int) = (n : Int) := by omega
  have hst := PI.start (n := n) (by omega) (by omega) w
  obtain ⟨c, hc, ec⟩ := wrap_mod c0 (1 + (n5 : Int)) (by omega)
  obtain ⟨q2, cap2, rfl, hl2, hc2, hcell2⟩ := hz.open
  obtain ⟨q3, cap3, rfl, hl3, hc3, hcell3⟩ := hd.open
  have hz0 : (0 : Int) ≤ (ids.length : Int) := by omega
  have hd0 : (0 : Int) ≤ (dl.length : Int) := by omega
  have hcn : c < n := by omega
  rw [← hnI, ← oneQ_nil n c] at hst
  replace hkn := Lib.hid hkn
  replace hst := Lib.hid hst
  replace hcell2 := Lib.hid hcell2
  replace hcell3 := Lib.hid hcell3
  replace hn := Lib.hid hn
  replace hnI := Lib.hid hnI
  go_enter Try.func4, Try.ntmps4
  go_wp2_with fail
  refine hst.out.mono ?_
  rintro e w1 ⟨p, rb, cap, pp, bb, rfl, hL⟩
  obtain ⟨M, hM⟩ : ∃ M, M = w1.heap.size := ⟨_, rfl⟩
  have hO : ON w p rb cap n c pp bb M (M + 1) [] [] (fun _ => false) (.slice none 0 0) (w1.alloc (.cells rowB0.toArray 42)) := by
    have hs := hL.keeps.size
    refine ⟨hL.kept (Keeps.alloc _ _), by rw [hM]; exact Blk.new _ _ _, World.ownsRow_nil _ _ _ _, by omega, by omega, by omega, fun k hk => ?_, fun hF => ?_⟩
    · have := hL.at'.foot_lt k hk; omega
    · have := hL.at'.foot_lt M hF; omega
  have hz1 := zeroB
  replace hO := Lib.hid hO
  replace hM := Lib.hid hM
  clear hst hL
  go_upto_region 8 with (fail)
  rw [← hM.out]
  refine wp_gen (fun W => ON w p rb cap n c pp bb M (M + 1) [] [] (fun _ => false) (.slice none 0 0) W) hO.out ?_
  clear hO hM hz1
  rintro W hO
  replace hO := Lib.hid hO
  go_wp2_with fail
  go_loopw [12, 13] (fun v i wr => ∃ (k : Nat) (l : List Int), k ≤ ids.length ∧ k ≤ 256 ∧ l.length ≤ k ∧ i = .int .i64 (k : Int) ∧ ON w p rb cap n c pp bb M (M + 1) l l (fun j => decide ((j : Int) ∈ l)) v wr) (fun _ i _ => ids.length - (intOf i).toNat)
  case atStart => exact ⟨0, [], by omega, by omega, by simp, rfl, by simpa using hO.out⟩
  case round =>
    clear hO
    obtain ⟨k, l, hk, hk2, hll, rfl, hO⟩ := hrel
    by_cases hgo : k < ids.length ∧ k < 256
    · obtain ⟨hlt, h256⟩ := hgo
      have hltI := Int.ofNat_lt.2 hlt
      have h256I : (k : Int) < 256 := by omega
      have hk0 : (0 : Int) ≤ (k : Int) := by omega
      obtain ⟨b2, off2, rfl, hcx⟩ := hcell2.out k hlt
      have hcy := (World.cell?_of_block (a := ⟨b2, off2 + k, none⟩) (hO.pi.keeps.block b2 (cell_lt hcx))).trans hcx
      obtain ⟨x, hx, ex⟩ := wrap_mod ids[k] 256 (by decide)
      generalize ids[k] = y at *
      have hxr : 0 ≤ (x : Int) ∧ (x : Int) < 256 := by omega
      have hadd := hO.add hcn (x : Int) hxr wr.heap.size rfl
      have hx0 : (0 : Int) ≤ (x : Int) := by omega
      have hx1 : (x : Int) < 256 := by omega
      have hxN : x < 256 := by omega
      clear hcx
      by_cases hm : (x : Int) ∈ l
      · rw [if_pos hm] at hadd
        simp only [if_pos hm] at hadd
        have hfe : ∀ j, j < 256 → (if j = x then true else decide ((j : Int) ∈ l)) = decide ((j : Int) ∈ l) := fun j _ => by
          split
          · rename_i e; rw [e, decide_eq_true hm]
          · rfl
        replace hadd := Lib.hid hadd
        replace hfe := Lib.hid hfe
        clear hO
        go_wp2_with fail
        refine hadd.out.mono ?_
        rintro e w2 ⟨rfl, hO⟩
        have hcM := hO.tab.cellK (rowB_get _ x hxN)
        rw [decide_eq_true hm] at hcM
        have hfM := hO.tab.frozen x
        have hO2 := hO.set x true hfe.out
        replace hO2 := Lib.hid hO2
        replace hm := Lib.hid hm
        clear hO
        go_wp2_with fail
        go_roundw
        case rel => exact ⟨k + 1, l, by omega, by omega, by omega, by go_num, hO2.out⟩
        case measure => (simp [intOf]; try omega)
      · rw [if_neg hm] at hadd
        simp only [if_neg hm] at hadd
        have hfe : ∀ j, j < 256 → (if j = x then true else decide ((j : Int) ∈ l)) = decide ((j : Int) ∈ l ++ [(x : Int)]) := fun j _ => by
          split
          · rename_i e; rw [e]; simp
          · rename_i e
            have : ¬ (j : Int) = (x : Int) := by omega
            simp [this]
        replace hadd := Lib.hid hadd
        replace hfe := Lib.hid hfe
        clear hO
        go_wp2_with fail
        refine hadd.out.mono ?_
        rintro e w2 ⟨rfl, hO⟩
        have hcM := hO.tab.cellK (rowB_get _ x hxN)
        rw [decide_eq_false hm] at hcM
        have hrow := hO.row
        have hbase : M + 1 ≤ w2.heap.size := hO.tab.lt
        replace hO := Lib.hid hO
        replace hm := Lib.hid hm
        go_wp2_with (at_builtin; refine app1 rfl _ _ 32 3 (.int .i64 0) 8 rfl Try.underlying32 infoI25 rfl (M + 1) _ _ _ rfl hrow _ rfl rfl (by unfold maxLen; omega) (by omega) hbase ?_; intro g cap4 w3 hown hgrow hbel; have hO3 := hO.out.push hown hgrow; have hfM := hO3.tab.frozen x; have hcM3 := hO3.tab.cellK (rowB_get _ x hxN); have hO4 := hO3.set x true hfe.out; replace hO3 := Lib.hid hO3; replace hO4 := Lib.hid hO4)
        go_roundw
        case rel => exact ⟨k + 1, l ++ [(x : Int)], by omega, by omega, by rw [List.length_append, List.length_singleton]; omega, by go_num, hO4.out⟩
        case measure => (simp [intOf]; try omega)
    · have hgoI : ¬ ((k : Int) < (ids.length : Int)) ∨ ((k : Int) < (ids.length : Int) ∧ ¬ ((k : Int) < 256)) := by omega
      have hl256 : l.length ≤ 256 := by omega
      have hl0 : ∀ z ∈ l, 0 ≤ z := fun z hz => (hO.pi.ok.rng c z (by rw [oneQ_getD n c l hcn, if_pos rfl]; exact hz)).1
      have hl1 : ∀ z ∈ l, z < 256 := fun z hz => (hO.pi.ok.rng c z (by rw [oneQ_getD n c l hcn, if_pos rfl]; exact hz)).2
      replace hl1 := Lib.hid hl1
      obtain ⟨W2, hW2⟩ : ∃ W2, W2 = wr := ⟨_, rfl⟩
      rw [← hW2] at hO ⊢
      clear hW2
      replace hO := Lib.hid hO
      replace hl0 := Lib.hid hl0
      clear hcell2
      go_upto_region 9 with (fail)
      go_cut [50] (fun b wx => b = .bool false ∧ wx = W2)
      case first =>
        rcases hgoI with hg | ⟨hg, hg2⟩
        all_goals
          go_wp2_with fail
          go_meet
          exact ⟨rfl, rfl⟩
      case rest =>
        obtain ⟨rfl, hw⟩ := hcut
        subst hw
        clear hgoI hgo
        obtain ⟨W3, hW3⟩ : ∃ W3, W3 = wc := ⟨_, rfl⟩
        rw [← hW3] at hO ⊢
        clear hW3
        have hO0 := hO.out
        have hq0 : left l (fun j => decide ((j : Int) ∈ l)) = l := left_all hl0.out
        rw [← hq0] at hO0
        rw [hq0] at hO0
        go_wp2_with fail
        go_loopw [16] (fun i wr => ∃ (k2 : Nat) (D : Nat → Bool), k2 ≤ dl.length ∧ k2 ≤ 256 ∧ i = .int .i64 (k2 : Int) ∧ (∀ j, j < 256 → D j = true → (j : Int) ∈ l) ∧ ON w p rb cap n c pp bb M (M + 1) (left l D) l D u12 wr) (fun i _ => dl.length - (intOf i).toNat)
        case atStart => exact ⟨0, _, by omega, by omega, rfl, fun j _ hj => of_decide_eq_true hj, by rw [hq0]; exact hO.out⟩
        case round =>
          clear hO hO0 hq0
          obtain ⟨k2, D, hk3, hk4, rfl, hD, hO⟩ := hrel
          obtain ⟨wo, hwo⟩ : ∃ wo : World, wo = wr := ⟨_, rfl⟩
          rw [← hwo] at hO ⊢
          clear hwo
          by_cases hgo : k2 < dl.length ∧ k2 < 256
          · obtain ⟨hlt, h256⟩ := hgo
            have hltI := Int.ofNat_lt.2 hlt
            have h256I : (k2 : Int) < 256 := by omega
            have hk0 : (0 : Int) ≤ (k2 : Int) := by omega
            obtain ⟨b3, off3, rfl, hcx⟩ := hcell3.out k2 hlt
            have hcy := (World.cell?_of_block (a := ⟨b3, off3 + k2, none⟩) (hO.pi.keeps.block b3 (cell_lt hcx))).trans hcx
            obtain ⟨x, hx, ex⟩ := wrap_mod dl[k2] 256 (by decide)
            generalize dl[k2] = y at *
            have hxN : x < 256 := by omega
            have hx0 : (0 : Int) ≤ (x : Int) := by omega
            have hx1 : (x : Int) < 256 := by omega
            have hdel := fun Wq hkq => hO.del hcn (x : Int) Wq hkq
            rw [left_del hl0.out D x] at hdel
            have hD2 : ∀ j, j < 256 → (if j = x then false else D j) = true → (j : Int) ∈ l := fun j hj h => by
              split at h
              · cases h
              · exact hD j hj h
            have hmx := left_mem hD x hxN
            have hcM := hO.tab.cellK (rowB_get D x hxN)
            clear hcx
            replace hdel := Lib.hid hdel
            replace hD2 := Lib.hid hD2
            replace hD := Lib.hid hD
            replace hO := Lib.hid hO
            go_upto_region 22 with (fail)
            go_cut [116] (fun b wx => b = .bool false ∧ ON w p rb cap n c pp bb M (M + 1) (left l (fun j => if j = x then false else D j)) l D u12 wx)
            case first =>
              cases hm : D x with
              | true =>
                rw [if_pos (hmx.2 hm)] at hdel
                rw [hm] at hcM
                replace hdel := Lib.hid hdel
                clear hmx
                have hML := hO.out.tab.lt
                have hcW : ((wo.alloc (.cells #[.int .i64 (x : Int)] 3)).drew).cell? ⟨M, x, none⟩ = some (.bool true) := ((((hO.out.kept (Keeps.alloc _ _)).kept (Keeps.drew _)).tab.cellK (rowB_get D x hxN))).trans (by rw [hm])
                go_region_with (go_at_call 15; refine (hdel.out _ (Keeps.drew _)).mono ?_; rintro e w2 ⟨rfl, hO2⟩; have hcM2 := hO2.tab.cellK (rowB_get D x hxN); rw [hm] at hcM2)
                all_goals
                  go_wp2
                  go_meet
                  exact ⟨rfl, by assumption⟩
              | false =>
                rw [if_neg (fun h => by rw [hmx.1 h] at hm; cases hm)] at hdel
                rw [hm] at hcM
                replace hdel := Lib.hid hdel
                clear hmx
                have hML := hO.out.tab.lt
                have hcW : ((wo.alloc (.cells #[.int .i64 (x : Int)] 3)).drew).cell? ⟨M, x, none⟩ = some (.bool false) := ((((hO.out.kept (Keeps.alloc _ _)).kept (Keeps.drew _)).tab.cellK (rowB_get D x hxN))).trans (by rw [hm])
                go_region_with (go_at_call 15; refine (hdel.out _ (Keeps.drew _)).mono ?_; rintro e w2 ⟨rfl, hO2⟩; have hcM2 := hO2.tab.cellK (rowB_get D x hxN); rw [hm] at hcM2)
                all_goals
                  go_wp2
                  go_meet
                  exact ⟨rfl, by assumption⟩
            case rest =>
              clear hO
              obtain ⟨rfl, hO2⟩ := hcut
              have hcM2 := hO2.tab.cellK (rowB_get D x hxN)
              have hfM2 := hO2.tab.frozen x
              have hO3 := hO2.set x false (f' := fun j => if j = x then false else D j) (fun j _ => rfl)
              replace hO3 := Lib.hid hO3
              clear hO2 hdel hcM hmx
              go_wp2_with fail
              go_roundw
              case rel => exact ⟨k2 + 1, _, by omega, by omega, by go_num, hD2.out, hO3.out⟩
              case measure => (simp [intOf]; try omega)
          · have hgoI : ¬ ((k2 : Int) < (dl.length : Int)) ∨ ((k2 : Int) < (dl.length : Int) ∧ ¬ ((k2 : Int) < 256)) := by omega
            replace hO := Lib.hid hO
            replace hD := Lib.hid hD
            clear hcell3
            go_upto_region 19 with (fail)
            go_cut [98] (fun b wx => b = .bool false ∧ wx = wo)
            case first =>
              rcases hgoI with hg | ⟨hg, hg2⟩
              all_goals
                go_wp2_with fail
                go_meet
                exact ⟨rfl, rfl⟩
            case rest =>
              obtain ⟨rfl, hw⟩ := hcut
              subst hw
              clear hgoI hgo
              obtain ⟨wo, hwo⟩ : ∃ W4, W4 = wc := ⟨_, rfl⟩
              rw [← hwo] at hO ⊢
              clear hwo
              obtain ⟨uq, ucap, hu⟩ := row_slice hO.out.row
              subst hu
              have hl0I : (0 : Int) ≤ (l.length : Int) := by omega
              have hO3 : ON w p rb cap n c pp bb M (M + 1) (left (l.drop 0) D) l D (.slice uq l.length ucap) wo := by rw [List.drop_zero]; exact hO.out
              replace hO3 := Lib.hid hO3
              clear hO
              go_wp2_with fail
              go_loopw [18] (fun i wr => ∃ k3 : Nat, k3 ≤ l.length ∧ i = .int .i64 (k3 : Int) ∧ ON w p rb cap n c pp bb M (M + 1) (left (l.drop k3) D) l D (.slice uq l.length ucap) wr) (fun i _ => l.length - (intOf i).toNat)
              case atStart => exact ⟨0, by omega, rfl, hO3.out⟩
              case round =>
                clear hO3
                obtain ⟨k3, hk5, rfl, hO⟩ := hrel
                by_cases hlt : k3 < l.length
                · have hltI := Int.ofNat_lt.2 hlt
                  have hk0 : (0 : Int) ≤ (k3 : Int) := by omega
                  have hz0 := hl0.out l[k3] (List.getElem_mem hlt)
                  have hz1 := hl1.out l[k3] (List.getElem_mem hlt)
                  obtain ⟨q5, cap5, hv5, _, _, _, hcell5⟩ := slc_of_row hO.row
                  obtain ⟨b5, off5, hp5, hc5⟩ := hcell5 k3 (by simpa using hlt)
                  simp only [Value.slice.injEq] at hv5
                  obtain rfl : uq = some ⟨b5, off5, none⟩ := hv5.1.trans hp5
                  rw [show (l.map (Value.int .i64)).getD k3 undef = .int .i64 l[k3] by simp [List.getD, hlt]] at hc5
                  have hcD := hO.tab.cellK (rowB_get D (l[k3].toNat) (by omega))
                  have hdr := left_drop D hlt
                  have ht5 := tmod32 k3
                  have hrow := hO.row
                  generalize hz : l[k3] = z at *
                  obtain ⟨x, rfl⟩ : ∃ x : Nat, z = x := ⟨z.toNat, by omega⟩
                  simp only [Int.toNat_natCast] at hdr hcD
                  have hx0 : (0 : Int) ≤ (x : Int) := by omega
                  have hx1 : (x : Int) < 256 := by omega
                  have hxN : x < 256 := by omega
                  clear hz0 hz1 hv5 hp5 hcell5
                  cases hD5 : D x with
                  | false =>
                    rw [hD5] at hcD
                    rw [if_neg (by rw [hD5]; decide)] at hdr
                    rw [hdr] at hO
                    replace hO := Lib.hid hO
                    replace hrow := Lib.hid hrow
                    replace hdr := Lib.hid hdr
                    clear hrow
                    go_wp2_with fail
                    go_roundw
                    case rel => exact ⟨k3 + 1, by omega, by go_num, hO.out⟩
                    case measure => (simp [intOf]; try omega)
                  | true =>
                    rw [hD5] at hcD
                    rw [if_pos hD5] at hdr
                    rw [hdr] at hO
                    have hbe := hO.begin hcn (k3 % 32) (Nat.mod_lt _ (by decide))
                    rw [← ht5] at hbe
                    replace hbe := Lib.hid hbe
                    replace hdr := Lib.hid hdr
                    replace ht5 := Lib.hid ht5
                    replace hz := Lib.hid hz
                    clear hO hrow hdr ht5
                    go_wp2_with fail
                    refine hbe.out.mono ?_
                    rintro e w2 ⟨rfl, hen⟩
                    replace hen := Lib.hid hen
                    clear hbe
                    go_wp2_with fail
                    refine hen.out.mono ?_
                    rintro e w3 ⟨rfl, hO⟩
                    obtain ⟨q5, cap5, hv5, _, _, _, hcell5⟩ := slc_of_row hO.row
                    obtain ⟨b6, off6, hp5, hc6⟩ := hcell5 k3 (by simpa using hlt)
                    simp only [Value.slice.injEq] at hv5
                    obtain ⟨rfl, rfl⟩ : b5 = b6 ∧ off5 = off6 := by simpa using hv5.1.trans hp5
                    rw [show (l.map (Value.int .i64)).getD k3 undef = .int .i64 x by rw [← hz.out]; simp [List.getD, hlt]] at hc6
                    replace hO := Lib.hid hO
                    clear hen hv5 hp5 hcell5 hc5 hcD
                    go_wp2_with fail
                    go_roundw
                    case rel => exact ⟨k3 + 1, by omega, by go_num, hO.out⟩
                    case measure => (simp [intOf]; try omega)
                · obtain rfl : k3 = l.length := by omega
                  rw [List.drop_length, show left [] D = [] from rfl] at hO
                  have hP := hO.pi
                  rw [oneQ_nil n c] at hP
                  have hb := begin_none hP.at' c 0 hcn (by decide) rfl (by simp [List.getD, hcn])
                  rw [show ((0 : Nat) : Int) = 0 from rfl] at hb
                  have hk := hkn.out wr
                  have hlen := fun (W : World) (hK : Keeps wr W) => plen_any (hP.at'.keeps hK)
                  simp only [lenTo_none] at hlen
                  rw [show ((0 : Nat) : Int) = 0 from rfl] at hlen
                  have hKw := hP.keeps
                  replace hKw := Lib.hid hKw
                  replace hlen := Lib.hid hlen
                  replace hk := Lib.hid hk
                  replace hb := Lib.hid hb
                  clear hO hP
                  go_wp2_with fail
                  refine hb.out.mono ?_
                  rintro e w2 ⟨rfl, rfl⟩
                  go_wp2_with fail
                  refine hk.out.mono ?_
                  rintro e w2 ⟨rfl, hK2⟩
                  have hle2 := hlen.out w2 hK2
                  replace hle2 := Lib.hid hle2
                  replace hK2 := Lib.hid hK2
                  go_wp2_with fail
                  refine hle2.out.mono ?_
                  rintro e w3 ⟨rfl, rfl⟩
                  go_wp2_with fail
                  go_ret
                  exact ⟨rfl, Keeps.trans hKw.out hK2.out⟩
end Go.Proofs.Ytlihpmfponkmjaa
