/- Merged: qPlay12 qRef12 qRef12b qRef12c qRef12d. -/
import Derived.Test.YtefippjakkgjkaaDoorGraceW
import Derived.Test.YtefippjakkgjkaaDoorP11
import Derived.Test.YtefippjakkgjkaaDoorP10
import Derived.Deep.RegionHeld3
import Derived.Deep.DeepCutAuto
import Derived.Deep.CutBlock
/- GracePlays in plain mathematics: the document's one list of callbacks against the grace's rings. -/
namespace Go.Proofs.YtefippjakkgjkaaDoor

/-- The document's list behind a look, and what the look tells. -/
def lookD (G : GSt) (L : List K.C3) : List K.C3 := match G.sc with | none => L | some y => if lenN (poll G.S y.2 16).left = 0 then K.left3 G.began L else L
def lookO (G : GSt) (n : Nat) (L : List K.C3) : List Int := match G.sc with | none => [] | some y => if lenN (poll G.S y.2 16).left = 0 then K.tell3 G.began L n else []
section
variable {G : GSt} {n : Nat} {L : List K.C3}
theorem lookS_R (hR : G.R = K.ringsL n L) (fit : K.Fit n G.last L) : G.lookS.1.R = K.ringsL n (lookD G L) ∧ K.Fit n G.lookS.1.last (lookD G L) ∧ G.lookS.2 = lookO G n L := by
  unfold GSt.lookS lookD lookO
  cases hs : G.sc with
  | none => exact ⟨hR, fit, rfl⟩
  | some y =>
    by_cases h : lenN (poll G.S y.2 16).left = 0
    · simp only [if_pos h]
      exact ⟨by rw [hR, K.left_ringsL fit], fit.left _, by rw [hR, K.tell_ringsL fit]⟩
    · simp only [if_neg h]
      exact ⟨hR, fit, trivial⟩
theorem lookS_same (G : GSt) : G.lookS.1.S = G.S ∧ G.lookS.1.last = G.last ∧ G.lookS.1.began = G.began ∧ G.lookS.1.want = G.want := by
  unfold GSt.lookS
  cases hs : G.sc with
  | none => exact ⟨rfl, rfl, rfl, rfl⟩
  | some y =>
    by_cases h : lenN (poll G.S y.2 16).left = 0
    · simp [h]
    · simp [h]
/-- The document's list behind a beginning. -/
def begD (G : GSt) (L : List K.C3) : List K.C3 := if G.sc.isSome = true ∨ (K.open3 L = 0 ∧ G.want ≤ G.began) then L else K.close3 (G.began + 1) L
theorem begS_R (hR : G.R = K.ringsL n L) (fit : K.Fit n G.last L) (h0 : 0 ≤ G.began) (hl : G.last ≤ G.began) (x : Nat) :
    (G.begS x).R = K.ringsL n (begD G L) ∧ K.Fit n (G.begS x).last (begD G L) ∧ (G.begS x).S = G.S ∧ (G.begS x).last ≤ (G.begS x).began ∧ G.began ≤ (G.begS x).began ∧ (G.begS x).began ≤ G.began + 1 ∧ (G.begS x).want = G.want ∧ (G.begS x).done = G.done := by
  have ho : K.openC G.R.flatten = K.open3 L := by rw [hR, K.openC_ringsL fit]
  unfold GSt.begS begD
  rw [ho]
  by_cases h : G.sc.isSome = true ∨ (K.open3 L = 0 ∧ G.want ≤ G.began)
  · rw [if_pos h, if_pos h]
    exact ⟨hR, fit, rfl, hl, Int.le_refl _, by omega, rfl, rfl⟩
  · rw [if_neg h, if_neg h]
    refine ⟨?_, fit.close (G.began + 1) (by omega) (by omega), rfl, Int.le_refl _, ?_, Int.le_refl _, rfl, rfl⟩
    · show K.closeL (G.began + 1) G.R = _
      rw [hR, K.ringsL_close]
    · show G.began ≤ G.began + 1
      omega
/-- How many the document's list has at most. -/
theorem K.Fit.len (fit : K.Fit n G.last L) : L.length ≤ n * 64 := by
  have h1 := K.len_ringsL fit
  rw [← h1, K.ringsL]
  have : ∀ (m : Nat), (((List.range m).map (K.ringL L)).flatten).length ≤ m * 64 := by
    intro m
    induction m with
    | zero => simp
    | succ m ih =>
      rw [List.range_succ, List.map_append, List.flatten_append, List.length_append]
      have h2 := fit.room m
      have h3 := K.ringL_len L m
      simp only [List.map_cons, List.map_nil, List.flatten_cons, List.flatten_nil, List.append_nil]
      omega
  exact this n
theorem tell3_le (g : Int) (fit : K.Fit n G.last L) : ∀ m, (K.tell3 g L m).length ≤ m * 64
  | 0 => by simp [K.tell3]
  | m + 1 => by
    have h1 := tell3_le g fit m
    rw [K.tell3_succ, List.length_append]
    have h2 : (K.tellC g L m).length ≤ K.cnt3 L m := by
      unfold K.tellC K.cnt3
      rw [List.length_map]
      refine (List.Sublist.length_le ?_)
      have e : L.filter (K.dn3 g m) = (L.filter fun x => x.1 == m).filter (fun x => decide (0 < x.2.2) && decide (x.2.2 ≤ g)) := by
        rw [List.filter_filter]
        congr 1
        funext x
        unfold K.dn3
        rw [Bool.and_comm]
      rw [e]
      exact List.filter_sublist
    have h3 := fit.room m
    omega
theorem lookO_len (fit : K.Fit n G.last L) : (lookO G n L).length ≤ n * 64 := by
  unfold lookO
  split
  · simp
  · split
    · exact tell3_le _ fit n
    · simp
end
end Go.Proofs.YtefippjakkgjkaaDoor

/- The reference of grace: its value in memory; Enter, Exit, Call. -/
namespace Go.Proofs.YtefippjakkgjkaaDoor
open Go.RowKit

theorem SlcS.chgN {S : Nat → Prop} {sz : Nat} {w w' : World} {v : Value} {els : List (List Value)} (h : SlcS sz w v els) (hm : Chg S w w') (hsep : ∀ b, v.ownBlock = some b → 0 < els.length → ¬ S b) : SlcS sz w' v els := by
  by_cases h0 : 0 < els.length
  · exact h.chg hm fun b hb => hsep b hb h0
  · obtain ⟨p, cap, hv, hl, hc, hn, hs, _⟩ := h
    exact ⟨p, cap, hv, hl, hc, hn, hs, fun k hk => absurd hk (by omega)⟩
theorem SlcS.own_lt {sz : Nat} {w : World} {v : Value} {els : List (List Value)} (h : SlcS sz w v els) (hsz : 0 < sz) {b : Nat} (hb : v.ownBlock = some b) (h0 : 0 < els.length) : b < w.heap.size := by
  obtain ⟨p, cap, rfl, _, _, hc⟩ := h.get
  obtain ⟨c, off, rfl, hcell⟩ := hc 0 h0
  have := cell_lt (hcell 0 hsz)
  simp only [Value.ownBlock, Option.some.injEq] at hb
  simp only at this
  omega
/-- A slice that is the old one, or younger than the boxes, stays when the boxes are written. -/
theorem box_keep {S : Nat → Prop} {sz : Nat} {w W0 W W' : World} {v v0 : Value} {els els0 : List (List Value)} (hsz : 0 < sz) (h : SlcS sz W v els) (h0 : SlcS sz w v0 els0) (hv : v = v0 ∨ FreshW W0 v) (hC : Chg S W W') (hS : ∀ k, S k → w.heap.size ≤ k ∧ k < W0.heap.size) : SlcS sz W' v els := by
  refine h.chgN hC fun b hb hl hs => ?_
  obtain ⟨h1, h2⟩ := hS b hs
  rcases hv with rfl | hv
  · obtain ⟨p, cap, e1, _⟩ := h.get
    obtain ⟨p', cap', e2, _⟩ := h0.get
    rw [e1] at e2
    simp only [Value.slice.injEq] at e2
    have := h0.own_lt hsz hb (by omega)
    omega
  · have := hv b hb
    omega
/-- The document's grace. -/
structure Gv where
  u : Value
  n : Nat
  last : Int
  lv : Value
  runs : Bool
  b : Int
  q : Int
  v : Value
  bg : Int
  ov : Int
  wt : Int
def Gv.cs (x : Gv) : List Value := [x.u, .int .i64 (x.n : Int), .int .i64 x.last, x.lv, .bool x.runs, .int .i64 x.b, .int .i64 x.q, x.v, .int .i64 x.bg, .int .i64 x.ov, .int .i64 x.wt]
def Gv.agg (x : Gv) : Value := .agg #[x.u, .int .i64 (x.n : Int), .int .i64 x.last, x.lv, .bool x.runs, .int .i64 x.b, .int .i64 x.q, x.v, .int .i64 x.bg, .int .i64 x.ov, .int .i64 x.wt]
def Gv.zero : Gv := ⟨.slice none 0 0, 0, 0, .slice none 0 0, false, 0, 0, .slice none 0 0, 0, 0, 0⟩
structure Gv.Ones (x : Gv) : Prop where
  u : x.u.oneCell' = true
  lv : x.lv.oneCell' = true
  v : x.v.oneCell' = true
theorem Gv.Ones.all {x : Gv} (h : x.Ones) : ∀ c ∈ x.cs, c.oneCell' = true := by
  intro c hc
  simp only [Gv.cs, List.mem_cons, List.not_mem_nil, or_false] at hc
  rcases hc with rfl | rfl | rfl | rfl | rfl | rfl | rfl | rfl | rfl | rfl | rfl
  · exact h.u
  · rfl
  · rfl
  · exact h.lv
  · rfl
  · rfl
  · rfl
  · exact h.v
  · rfl
  · rfl
  · rfl
theorem size12 : (Tryd.prog.info? 57).map (·.size) = some 11 := by kernel_rfl
theorem zero12 (w : World) : (zeroValue 57).run Tryd.prog w = .ok (.agg Gv.zero.cs.toArray) w := by kernel_rfl
theorem loadG12 {ops : Array Oper} {rest : List Oper} {o : Oper} {a : Act} {w : World} {Q : Exit → Act → World → Prop} {g : Nat} {x : Gv} (hb : Blk w g 57 x.cs) (hgd : o.guard = none) (y : Operand) (ho : o.op = .load 57 y)
    (hx : a.eval y = .pointer (some ⟨g, 0, none⟩)) (h : wpList Tryd.prog ops Q rest (a.put o.dst (.agg x.cs.toArray)) w) : wpList Tryd.prog ops Q (o :: rest) a w :=
  loadRow hb hgd _ y ho hx _ Tryd.underlying57 rfl 11 size12 rfl h
theorem storeG12 {ops : Array Oper} {rest : List Oper} {o : Oper} {a : Act} {w : World} {Q : Exit → Act → World → Prop} {g : Nat} {x x' : Gv} (hb : Blk w g 57 x'.cs) (h1 : x.Ones) (hgd : o.guard = none) (y z : Operand) (ho : o.op = .store 57 y z) (hd : o.dst = none)
    (hx : a.eval y = .pointer (some ⟨g, 0, none⟩)) (hy : a.eval z = .agg x.cs.toArray) (h : wpList Tryd.prog ops Q rest a (w.setRow g x.cs.toArray)) : wpList Tryd.prog ops Q (o :: rest) a w :=
  storeRow hb x.cs hgd _ y z ho hd hx hy 11 size12 rfl rfl h1.all h
/-- Behind the box of the receiver and the result's block. -/
structure Bx12 (w : World) (B R : Nat) (x : Gv) (W : World) : Prop where
  b : Blk W B 57 x.cs
  r : Blk W R 57 Gv.zero.cs
  k : Keeps w W
  new : w.heap.size ≤ B ∧ B < R
section
variable {w W W' : World} {B R : Nat} {x : Gv}
theorem Bx12.kept (h : Bx12 w B R x W) (hk : Keeps W W') : Bx12 w B R x W' := ⟨h.b.keeps hk, h.r.keeps hk, h.k.trans hk, h.new⟩
theorem Bx12.start (h1 : B = w.heap.size) (h2 : R = w.heap.size + 1) :
    Bx12 w B R x ((w.alloc (.cells x.cs.toArray 57)).alloc (.cells Gv.zero.cs.toArray 57)) := by
  subst h1; subst h2
  exact ⟨(Blk.new _ _ _).alloc _, Blk.at (by simp) rfl, (Keeps.alloc _ _).trans (Keeps.alloc _ _), by omega, by omega⟩
theorem Bx12.set (h : Bx12 w B R x W) (j : Nat) (y : Value) {x' : Gv} (he : x.cs.set j y = x'.cs) : Bx12 w B R x' (W.setCell ⟨B, j, none⟩ y) :=
  ⟨he ▸ h.b.set j y, h.r.other (by have := h.new; omega) _ _, Chg.keeps (S := (· = B)) (Chg.setCell _ _ rfl) h.k (fun k hk e => by have := h.new; omega), h.new⟩
theorem Bx12.fin (h : Bx12 w B R x W) : Blk (W.setRow R x.cs.toArray) R 57 x.cs ∧ Keeps w (W.setRow R x.cs.toArray) :=
  ⟨h.r.setRow _, Chg.keeps (S := fun k => k = R) (Chg.setRow _ rfl) h.k (fun k hk e => by have := h.new; omega)⟩
/-- The boxes' blocks. -/
def BR (B R : Nat) (k : Nat) : Prop := k = B ∨ k = R
theorem DeedsN.box {u u' : Value} {l l' : List (Int × Bool)} {W0 W2 : World} (h : DeedsN W0 u u' l' W2) (hu : Deeds w u l) (hK : Keeps w W0) (hC : Chg (BR B R) W2 W') (hB : w.heap.size ≤ B ∧ B < R) (hR : R < W0.heap.size) : DeedsN w u u' l' W' := by
  obtain ⟨h1, h2, h3⟩ := h
  refine ⟨box_keep (W0 := W0) (by decide) h1 hu h2 hC (fun k hk => by rcases hk with rfl | rfl <;> omega), h2.imp id (fun h c hc => Nat.le_trans hK.size (h c hc)), Chg.keeps hC (hK.trans h3) (fun k hk e => by rcases e with rfl | rfl <;> omega)⟩
end
set_option maxRecDepth 100000 in
set_option maxHeartbeats 2000000 in
theorem r12Enter_any (x : Gv) (l : List (Int × Bool)) (r : Int) (w : World) (h1 : x.Ones) (hu : Deeds w x.u l) (hg : Good l) (hl : l.length ≤ 100000) :
    Calls Tryd.prog 24 #[x.agg, .int .i64 r] w fun e w' => ∃ u', e = .returned (.tuple #[({ x with u := u' } : Gv).agg, .int .i64 ((runD l).entE r)]) ∧ DeedsN w x.u u' (entD l r) w' := by
  have hent := fun (W : World) (hk : Keeps w W) => rEnter_any x.u l r W (hu.keeps hk) hg hl
  generalize (runD l).entE r = er at *
  generalize entD l r = l' at *
  unfold Gv.agg
  replace hent := Lib.hid hent
  replace hu := Lib.hid hu
  replace h1 := Lib.hid h1
  go_enter Tryd.func24, Tryd.ntmps24
  go_upto_region 1 with (fail)
  obtain ⟨B, hB⟩ : ∃ B, B = w.heap.size := ⟨_, rfl⟩
  obtain ⟨R, hR⟩ : ∃ R, R = w.heap.size + 1 := ⟨_, rfl⟩
  refine wp_gen (fun W => Bx12 w B R x W) (Bx12.start hB hR) ?_
  rw [← hR, ← hB]
  clear hB hR
  rintro W hX
  have hent2 := hent.out W hX.k
  have z0 := hX.b.cell 0 (by simp [Gv.cs])
  simp only [Gv.cs, List.getElem_cons_zero] at z0
  have hRl := hX.r.lt
  replace hX := Lib.hid hX
  replace hent2 := Lib.hid hent2
  clear hent
  go_wp2_with fail
  refine hent2.out.mono ?_
  rintro e W2 ⟨u', rfl, hD⟩
  obtain ⟨uq, uc, hu', _⟩ := hD.1.get
  obtain ⟨ul, hul⟩ : ∃ ul, ul = l'.length := ⟨_, rfl⟩
  rw [← hul] at hu'
  subst hu'
  replace hul := Lib.hid hul
  have hX2 := hX.out.kept hD.2.2
  have z0 := hX2.b.cell 0 (by simp [Gv.cs])
  have f0 := hX2.b.frozen 0
  simp only [Gv.cs, List.getElem_cons_zero] at z0
  have hX3 := hX2.set 0 (.slice uq ul uc) (x' := { x with u := .slice uq ul uc }) rfl
  have h3 : ({ x with u := .slice uq ul uc } : Gv).Ones := ⟨rfl, h1.out.lv, h1.out.v⟩
  have hf := hX3.fin
  have hfin := hD.box hu.out hX.out.k ((Chg.setCell (S := BR B R) (w := W2) 0 (.slice uq ul uc) (.inl rfl)).trans (Chg.setRow (S := BR B R) ({ x with u := .slice uq ul uc } : Gv).cs.toArray (.inr rfl))) hX.out.new hRl
  replace hX3 := Lib.hid hX3
  replace h3 := Lib.hid h3
  replace hf := Lib.hid hf
  replace hfin := Lib.hid hfin
  clear hX2 hX hent2 hD
  go_wp2_with (first | (refine loadG12 hX3.out.b rfl _ rfl rfl ?_) | (refine storeG12 hX3.out.r h3.out rfl _ _ rfl rfl rfl rfl ?_))
  refine bodyPost_ret (results_row_slot rfl _ hf.out.1 rfl _ Tryd.underlying57 rfl 11 size12 rfl) rfl ⟨_, rfl, hfin.out⟩
set_option maxRecDepth 100000 in
set_option maxHeartbeats 2000000 in
theorem r12Exit_any (x : Gv) (l : List (Int × Bool)) (r : Int) (w : World) (h1 : x.Ones) (hu : Deeds w x.u l) (hg : Good l) (hl : l.length ≤ 100000) :
    Calls Tryd.prog 26 #[x.agg, .int .i64 r] w fun e w' => ∃ u', e = .returned (.tuple #[({ x with u := u' } : Gv).agg, .bool ((runD l).exiB r), .int .i64 ((runD l).exiE r)]) ∧ DeedsN w x.u u' (exiD l r) w' := by
  have hent := fun (W : World) (hk : Keeps w W) => rExit_any x.u l r W (hu.keeps hk) hg hl
  generalize (runD l).exiE r = er at *
  generalize (runD l).exiB r = eb at *
  generalize exiD l r = l' at *
  unfold Gv.agg
  replace hent := Lib.hid hent
  replace hu := Lib.hid hu
  replace h1 := Lib.hid h1
  go_enter Tryd.func26, Tryd.ntmps26
  go_upto_region 1 with (fail)
  obtain ⟨B, hB⟩ : ∃ B, B = w.heap.size := ⟨_, rfl⟩
  obtain ⟨R, hR⟩ : ∃ R, R = w.heap.size + 1 := ⟨_, rfl⟩
  refine wp_gen (fun W => Bx12 w B R x W) (Bx12.start hB hR) ?_
  rw [← hR, ← hB]
  clear hB hR
  rintro W hX
  have hent2 := hent.out W hX.k
  have z0 := hX.b.cell 0 (by simp [Gv.cs])
  simp only [Gv.cs, List.getElem_cons_zero] at z0
  have hRl := hX.r.lt
  replace hX := Lib.hid hX
  replace hent2 := Lib.hid hent2
  clear hent
  go_wp2_with fail
  refine hent2.out.mono ?_
  rintro e W2 ⟨u', rfl, hD⟩
  obtain ⟨uq, uc, hu', _⟩ := hD.1.get
  obtain ⟨ul, hul⟩ : ∃ ul, ul = l'.length := ⟨_, rfl⟩
  rw [← hul] at hu'
  subst hu'
  replace hul := Lib.hid hul
  have hX2 := hX.out.kept hD.2.2
  have z0 := hX2.b.cell 0 (by simp [Gv.cs])
  have f0 := hX2.b.frozen 0
  simp only [Gv.cs, List.getElem_cons_zero] at z0
  have hX3 := hX2.set 0 (.slice uq ul uc) (x' := { x with u := .slice uq ul uc }) rfl
  have h3 : ({ x with u := .slice uq ul uc } : Gv).Ones := ⟨rfl, h1.out.lv, h1.out.v⟩
  have hf := hX3.fin
  have hfin := hD.box hu.out hX.out.k ((Chg.setCell (S := BR B R) (w := W2) 0 (.slice uq ul uc) (.inl rfl)).trans (Chg.setRow (S := BR B R) ({ x with u := .slice uq ul uc } : Gv).cs.toArray (.inr rfl))) hX.out.new hRl
  replace hX3 := Lib.hid hX3
  replace h3 := Lib.hid h3
  replace hf := Lib.hid hf
  replace hfin := Lib.hid hfin
  clear hX2 hX hent2 hD
  go_wp2_with (first | (refine loadG12 hX3.out.b rfl _ rfl rfl ?_) | (refine storeG12 hX3.out.r h3.out rfl _ _ rfl rfl rfl rfl ?_))
  refine bodyPost_ret (results_row_slots rfl _ hf.out.1 rfl _ Tryd.underlying57 rfl 11 size12 rfl) rfl ⟨_, rfl, hfin.out⟩
end Go.Proofs.YtefippjakkgjkaaDoor

/- The reference of grace: Call, Ticket, Barrier, Holdouts, New. -/
namespace Go.Proofs.YtefippjakkgjkaaDoor
open Go.RowKit

structure Gv.Sl (x : Gv) : Prop where
  u : ∃ q n c, x.u = .slice q n c
  lv : ∃ q n c, x.lv = .slice q n c
  v : ∃ q n c, x.v = .slice q n c
/-- Callbacks behind a slice that is the old one or new. -/
def Cs3N (w : World) (v0 v : Value) (L : List K.C3) (w' : World) : Prop := K.Cs3 w' v L ∧ (v = v0 ∨ FreshW w v) ∧ Keeps w w'
theorem Cs3N.box {w W0 W2 W' : World} {B R : Nat} {u u' : Value} {l l' : List K.C3} (h : Cs3N W0 u u' l' W2) (hu : K.Cs3 w u l) (hK : Keeps w W0) (hC : Chg (BR B R) W2 W') (hB : w.heap.size ≤ B ∧ B < R) (hR : R < W0.heap.size) : Cs3N w u u' l' W' := by
  obtain ⟨h1, h2, h3⟩ := h
  refine ⟨box_keep (W0 := W0) (by decide) h1 hu h2 hC (fun k hk => by rcases hk with rfl | rfl <;> omega), h2.imp id (fun h c hc => Nat.le_trans hK.size (h c hc)), Chg.keeps hC (hK.trans h3) (fun k hk e => by rcases e with rfl | rfl <;> omega)⟩
/-- What Add of the document's lists gives. -/
def add12 (n : Nat) (L : List K.C3) (c : Int) (ids : List Int) : List K.C3 × Int := if c < 0 ∨ (n : Int) ≤ c then (L, 2) else (K.add3 L c.toNat ids, if ids.length ≤ 64 - K.cnt3 L c.toNat then 0 else 3)
theorem r11Add12 (n : Nat) (last : Int) (v u : Value) (L : List K.C3) (c : Int) (ids : List Int) (w : World) (hv : K.Cs3 w v L) (hu : Ints w u ids) (hl1 : L.length ≤ 100000) (hi1 : ids.length ≤ 1000) (hcn : ∀ c, K.cnt3 L c ≤ 64) :
    Calls Tryd.prog 51 #[.agg #[.int .i64 (n : Int), .int .i64 last, v], .int .i64 c, u] w fun e w' => ∃ v', e = .returned (.tuple #[.agg #[.int .i64 (n : Int), .int .i64 last, v'], .int .i64 (add12 n L c ids).2]) ∧ Cs3N w v v' (add12 n L c ids).1 w' := by
  unfold add12
  by_cases h : c < 0 ∨ (n : Int) ≤ c
  · rw [if_pos h]
    exact (K.r11Add_no n last v u L c w hv h).mono fun e w' ⟨h1, h2⟩ => ⟨v, h1, hv.keeps h2, .inl rfl, h2⟩
  · rw [if_neg h]
    obtain ⟨k, rfl⟩ : ∃ k : Nat, c = k := ⟨c.toNat, by omega⟩
    rw [Int.toNat_natCast]
    exact (K.r11Add_yes n last v u L k ids w hv hu (by omega) hl1 hi1 (hcn k)).mono fun e w' ⟨v', h1, h2, h3, h4⟩ => ⟨v', h1, h2, .inr h3, h4⟩
set_option maxRecDepth 100000 in
set_option maxHeartbeats 2000000 in
theorem r12Call_any (x : Gv) (L : List K.C3) (c : Int) (iv : Value) (ids : List Int) (w : World) (h1 : x.Ones) (hv : K.Cs3 w x.lv L) (hi : Ints w iv ids) (hl1 : L.length ≤ 100000) (hi1 : ids.length ≤ 1000) (hcn : ∀ c, K.cnt3 L c ≤ 64) :
    Calls Tryd.prog 27 #[x.agg, .int .i64 c, iv] w fun e w' => ∃ lv', e = .returned (.tuple #[({ x with lv := lv' } : Gv).agg, .int .i64 (add12 x.n L c ids).2]) ∧ Cs3N w x.lv lv' (add12 x.n L c ids).1 w' := by
  have hadd := fun (W : World) (hk : Keeps w W) => r11Add12 x.n x.last x.lv iv L c ids W (hv.keeps hk) (Slc.below hi hk) hl1 hi1 hcn
  generalize (add12 x.n L c ids).2 = er at *
  generalize (add12 x.n L c ids).1 = L' at *
  obtain ⟨iq, ic, rfl, _⟩ := hi.open
  unfold Gv.agg
  replace hadd := Lib.hid hadd
  replace hv := Lib.hid hv
  replace h1 := Lib.hid h1
  clear hi
  go_enter Tryd.func27, Tryd.ntmps27
  go_upto_region 1 with (fail)
  obtain ⟨B, hB⟩ : ∃ B, B = w.heap.size := ⟨_, rfl⟩
  obtain ⟨R, hR⟩ : ∃ R, R = w.heap.size + 1 := ⟨_, rfl⟩
  refine wp_gen (fun W => Bx12 w B R x W) (Bx12.start hB hR) ?_
  rw [← hR, ← hB]
  clear hB hR
  rintro W hX
  have hadd2 := hadd.out W hX.k
  have z1 := hX.b.cell 1 (by simp [Gv.cs])
  have z2 := hX.b.cell 2 (by simp [Gv.cs])
  have z3 := hX.b.cell 3 (by simp [Gv.cs])
  simp only [Gv.cs, List.getElem_cons_zero, List.getElem_cons_succ] at z1 z2 z3
  have hRl := hX.r.lt
  replace hX := Lib.hid hX
  replace hadd2 := Lib.hid hadd2
  clear hadd
  go_wp2_with fail
  refine hadd2.out.mono ?_
  rintro e W2 ⟨u', rfl, hD⟩
  obtain ⟨uq, uc, hu', _⟩ := hD.1.get
  obtain ⟨ul, hul⟩ : ∃ ul, ul = L'.length := ⟨_, rfl⟩
  rw [← hul] at hu'
  subst hu'
  replace hul := Lib.hid hul
  have hX2 := hX.out.kept hD.2.2
  have hK2 := Keeps.alloc W2 (.cells #[.int .i64 (x.n : Int), .int .i64 x.last, (.slice uq ul uc)] 52)
  have hX3 := hX2.kept hK2
  have hD3 : Cs3N W x.lv (.slice uq ul uc) L' (W2.alloc (.cells #[.int .i64 (x.n : Int), .int .i64 x.last, (.slice uq ul uc)] 52)) := ⟨hD.1.keeps hK2, hD.2.1, hD.2.2.trans hK2⟩
  have hC3 := Blk.new W2 52 [.int .i64 (x.n : Int), .int .i64 x.last, (.slice uq ul uc)]
  obtain ⟨C, hC⟩ : ∃ C, C = W2.heap.size := ⟨_, rfl⟩
  rw [← hC] at hC3
  have hCn : R < C := by rw [hC]; exact hX2.r.lt
  replace hC := Lib.hid hC
  replace hX3 := Lib.hid hX3
  replace hD3 := Lib.hid hD3
  replace hC3 := Lib.hid hC3
  clear hX2 hD hadd2 hK2 z1 z2 z3
  go_upto_region 2 with (fail)
  rw [← hC.out]
  refine wp_gen (fun W3 => Bx12 w B R x W3 ∧ Cs3N W x.lv (.slice uq ul uc) L' W3 ∧ Blk W3 C 52 [.int .i64 (x.n : Int), .int .i64 x.last, (.slice uq ul uc)]) ⟨hX3.out, hD3.out, hC3.out⟩ ?_
  clear hX3 hD3 hC3 hC
  rintro W3 ⟨hX3, hD3, hC3⟩
  have z1 := hX3.b.cell 1 (by simp [Gv.cs])
  have z2 := hX3.b.cell 2 (by simp [Gv.cs])
  have z3 := hX3.b.cell 3 (by simp [Gv.cs])
  have f1 := hX3.b.frozen 1
  have f2 := hX3.b.frozen 2
  have f3 := hX3.b.frozen 3
  simp only [Gv.cs, List.getElem_cons_zero, List.getElem_cons_succ] at z1 z2 z3
  have y0 := hC3.cell 0 (by simp)
  have y1 := hC3.cell 1 (by simp)
  have y2 := hC3.cell 2 (by simp)
  simp only [List.getElem_cons_zero, List.getElem_cons_succ] at y0 y1 y2
  have hX4 := ((hX3.set 1 (.int .i64 (x.n : Int)) (x' := x) rfl).set 2 (.int .i64 x.last) (x' := x) rfl).set 3 (.slice uq ul uc) (x' := { x with lv := (.slice uq ul uc) }) rfl
  have h3 : ({ x with lv := (.slice uq ul uc) } : Gv).Ones := ⟨h1.out.u, rfl, h1.out.v⟩
  have hf := hX4.fin
  have hfin := hD3.box hv.out hX.out.k ((((Chg.setCell (S := BR B R) (w := W3) 1 (.int .i64 (x.n : Int)) (.inl rfl)).trans (Chg.setCell (S := BR B R) 2 (.int .i64 x.last) (.inl rfl))).trans (Chg.setCell (S := BR B R) 3 (.slice uq ul uc) (.inl rfl))).trans (Chg.setRow (S := BR B R) ({ x with lv := (.slice uq ul uc) } : Gv).cs.toArray (.inr rfl))) hX.out.new hRl
  replace hX4 := Lib.hid hX4
  replace h3 := Lib.hid h3
  replace hf := Lib.hid hf
  replace hfin := Lib.hid hfin
  clear hX hX3 hD3 hC3
  go_wp2_with (first | (refine loadG12 hX4.out.b rfl _ rfl rfl ?_) | (refine storeG12 hX4.out.r h3.out rfl _ _ rfl rfl rfl rfl ?_))
  refine bodyPost_ret (results_row_slot rfl _ hf.out.1 rfl _ Tryd.underlying57 rfl 11 size12 rfl) rfl ⟨_, rfl, hfin.out⟩
set_option maxRecDepth 100000 in
set_option maxHeartbeats 2000000 in
theorem r12Barrier_any (x : Gv) (L : List K.C3) (w : World) (hv : K.Cs3 w x.lv L) (h0 : 0 ≤ x.bg) (hb : x.bg < 1000000000) :
    Calls Tryd.prog 37 #[x.agg] w fun e w' => e = .returned (.int .i64 (if 0 < K.open3 L then x.bg + 1 else K.most3 L)) ∧ Keeps w w' := by
  have hop := fun (W : World) (hk : Keeps w W) => K.r11Open_any x.n x.last x.lv L W (hv.keeps hk)
  unfold K.ls3 at hop
  obtain ⟨er, her⟩ : ∃ er, er = (if 0 < K.open3 L then x.bg + 1 else K.most3 L) := ⟨_, rfl⟩
  rw [← her]
  generalize K.open3 L = o at *
  generalize K.most3 L = mo at *
  have ho0 : (0 : Int) ≤ (o : Int) := by omega
  unfold Gv.agg
  replace hop := Lib.hid hop
  replace her := Lib.hid her
  clear hv
  go_enter Tryd.func37, Tryd.ntmps37
  go_upto_region 1 with (fail)
  obtain ⟨B, hB⟩ : ∃ B, B = w.heap.size := ⟨_, rfl⟩
  refine wp_gen (fun W => Blk W B 57 x.cs ∧ Keeps w W) ⟨by rw [hB]; exact Blk.new _ _ _, Keeps.alloc _ _⟩ ?_
  rw [← hB]
  clear hB
  rintro W ⟨hX, hK⟩
  have hop2 := hop.out W hK
  have z1 := hX.cell 1 (by simp [Gv.cs])
  have z2 := hX.cell 2 (by simp [Gv.cs])
  have z3 := hX.cell 3 (by simp [Gv.cs])
  simp only [Gv.cs, List.getElem_cons_zero, List.getElem_cons_succ] at z1 z2 z3
  replace hX := Lib.hid hX
  replace hop2 := Lib.hid hop2
  replace hK := Lib.hid hK
  clear hop
  go_wp2_with fail
  refine hop2.out.mono ?_
  rintro e W2 ⟨rfl, hK2⟩
  have z8 := (hX.out.keeps hK2).cell 8 (by simp [Gv.cs])
  simp only [Gv.cs, List.getElem_cons_zero, List.getElem_cons_succ] at z8
  have hKw := hK.out.trans hK2
  replace hKw := Lib.hid hKw
  clear hop2 hK hX hK2 z1 z2 z3
  by_cases h : 0 < o
  · have hI : (0 : Int) < (o : Int) := by omega
    have e1 : er = x.bg + 1 := by rw [her.out, if_pos h]
    replace e1 := Lib.hid e1
    go_wp2_with fail
    go_ret
    exact ⟨by rw [e1.out]; rfl, hKw.out⟩
  · have hI : ¬ (0 : Int) < (o : Int) := by omega
    have e1 : er = mo := by rw [her.out, if_neg h]
    replace e1 := Lib.hid e1
    go_wp2_with fail
    go_ret
    exact ⟨by rw [e1.out]; rfl, hKw.out⟩
set_option maxRecDepth 100000 in
set_option maxHeartbeats 2000000 in
theorem r12Holdouts_any (x : Gv) (m : Nat) (w : World) (hm : m < 18446744073709551616) (hv : x.runs = true → Bools w x.v m) :
    Calls Tryd.prog 36 #[x.agg] w fun e w' => e = .returned (.int .u64 ((if x.runs = true then m else 0 : Nat) : Int)) ∧ Keeps w w' := by
  have hwd := fun (hr : x.runs = true) (W : World) (hk : Keeps w W) => r10Word_any x.b x.q x.v m W hm ((hv hr).keeps hk)
  unfold Gv.agg
  replace hwd := Lib.hid hwd
  clear hv
  go_enter Tryd.func36, Tryd.ntmps36
  go_upto_region 1 with (fail)
  obtain ⟨B, hB⟩ : ∃ B, B = w.heap.size := ⟨_, rfl⟩
  refine wp_gen (fun W => Blk W B 57 x.cs ∧ Keeps w W) ⟨by rw [hB]; exact Blk.new _ _ _, Keeps.alloc _ _⟩ ?_
  rw [← hB]
  clear hB
  rintro W ⟨hX, hK⟩
  have z4 := hX.cell 4 (by simp [Gv.cs])
  have z5 := hX.cell 5 (by simp [Gv.cs])
  have z6 := hX.cell 6 (by simp [Gv.cs])
  have z7 := hX.cell 7 (by simp [Gv.cs])
  simp only [Gv.cs, List.getElem_cons_zero, List.getElem_cons_succ] at z4 z5 z6 z7
  clear hX
  cases hr : x.runs with
  | false =>
    rw [hr] at z4
    replace hK := Lib.hid hK
    go_wp2_with fail
    all_goals
      go_ret
      exact ⟨rfl, hK.out⟩
  | true =>
    have hw2 := hwd.out hr W hK
    rw [hr] at z4
    replace hK := Lib.hid hK
    replace hw2 := Lib.hid hw2
    go_wp2_with fail
    refine hw2.out.mono ?_
    rintro e W2 ⟨rfl, hK2⟩
    go_wp2_with fail
    go_ret
    exact ⟨rfl, hK.out.trans hK2⟩
set_option maxRecDepth 100000 in
set_option maxHeartbeats 2000000 in
theorem r12Ticket_any (x : Gv) (w : World) (hs : x.Sl) (h0 : 0 ≤ x.bg) (hb : x.bg < 1000000000) :
    Calls Tryd.prog 28 #[x.agg] w fun e w' => e = .returned (.tuple #[({ x with wt := x.bg + 1 } : Gv).agg, .int .i64 (x.bg + 1)]) ∧ Keeps w w' := by
  obtain ⟨⟨q1, n1, c1, e1⟩, ⟨q2, n2, c2, e2⟩, ⟨q3, n3, c3, e3⟩⟩ := hs
  obtain ⟨xu, xn, xlast, xlv, xruns, xb, xq, xv, xbg, xov, xwt⟩ := x
  simp only at e1 e2 e3 h0 hb
  subst e1 e2 e3
  obtain ⟨x, hx⟩ : ∃ x : Gv, x = ⟨.slice q1 n1 c1, xn, xlast, .slice q2 n2 c2, xruns, xb, xq, .slice q3 n3 c3, xbg, xov, xwt⟩ := ⟨_, rfl⟩
  simp only [Gv.agg]
  go_enter Tryd.func28, Tryd.ntmps28
  go_upto_region 1 with (fail)
  obtain ⟨B, hB⟩ : ∃ B, B = w.heap.size := ⟨_, rfl⟩
  obtain ⟨R, hR⟩ : ∃ R, R = w.heap.size + 1 := ⟨_, rfl⟩
  refine wp_gen (fun W => Bx12 w B R x W) (by rw [hx]; exact Bx12.start hB hR) ?_
  rw [← hR, ← hB]
  clear hB hR
  rintro W hX
  subst hx
  have z8 := hX.b.cell 8 (by simp [Gv.cs])
  have z10 := hX.b.cell 10 (by simp [Gv.cs])
  have f10 := hX.b.frozen 10
  simp only [Gv.cs, List.getElem_cons_zero, List.getElem_cons_succ] at z8 z10
  have hX2 := hX.set 10 (.int .i64 (xbg + 1)) (x' := ⟨.slice q1 n1 c1, xn, xlast, .slice q2 n2 c2, xruns, xb, xq, .slice q3 n3 c3, xbg, xov, xbg + 1⟩) rfl
  replace hX2 := Lib.hid hX2
  clear hX
  go_upto_region 2 with (fail)
  refine wp_gen (fun W => Bx12 w B R ⟨.slice q1 n1 c1, xn, xlast, .slice q2 n2 c2, xruns, xb, xq, .slice q3 n3 c3, xbg, xov, xbg + 1⟩ W) hX2.out ?_
  clear hX2 z8 z10 f10
  rintro W2 hX2
  have z0 := hX2.b.cell 0 (by simp [Gv.cs])
  have z1 := hX2.b.cell 1 (by simp [Gv.cs])
  have z2 := hX2.b.cell 2 (by simp [Gv.cs])
  have z3 := hX2.b.cell 3 (by simp [Gv.cs])
  have z4 := hX2.b.cell 4 (by simp [Gv.cs])
  have z5 := hX2.b.cell 5 (by simp [Gv.cs])
  have z6 := hX2.b.cell 6 (by simp [Gv.cs])
  have z7 := hX2.b.cell 7 (by simp [Gv.cs])
  have z8 := hX2.b.cell 8 (by simp [Gv.cs])
  have z9 := hX2.b.cell 9 (by simp [Gv.cs])
  have z10 := hX2.b.cell 10 (by simp [Gv.cs])
  have r0 := hX2.r.cell 0 (by simp [Gv.cs])
  have g0 := hX2.r.frozen 0
  have r1 := hX2.r.cell 1 (by simp [Gv.cs])
  have g1 := hX2.r.frozen 1
  have r2 := hX2.r.cell 2 (by simp [Gv.cs])
  have g2 := hX2.r.frozen 2
  have r3 := hX2.r.cell 3 (by simp [Gv.cs])
  have g3 := hX2.r.frozen 3
  have r4 := hX2.r.cell 4 (by simp [Gv.cs])
  have g4 := hX2.r.frozen 4
  have r5 := hX2.r.cell 5 (by simp [Gv.cs])
  have g5 := hX2.r.frozen 5
  have r6 := hX2.r.cell 6 (by simp [Gv.cs])
  have g6 := hX2.r.frozen 6
  have r7 := hX2.r.cell 7 (by simp [Gv.cs])
  have g7 := hX2.r.frozen 7
  have r8 := hX2.r.cell 8 (by simp [Gv.cs])
  have g8 := hX2.r.frozen 8
  have r9 := hX2.r.cell 9 (by simp [Gv.cs])
  have g9 := hX2.r.frozen 9
  have r10 := hX2.r.cell 10 (by simp [Gv.cs])
  have g10 := hX2.r.frozen 10
  simp only [Gv.cs, Gv.zero, List.getElem_cons_zero, List.getElem_cons_succ] at z0 r0 z1 r1 z2 r2 z3 r3 z4 r4 z5 r5 z6 r6 z7 r7 z8 r8 z9 r9 z10 r10
  have hBR : B ≠ R := by have := hX2.new; omega
  have hX3 := Lib.hid hX2
  clear hX2
  have hz : ∀ W, Chg (· = R) W2 W → (W.cell? ⟨B, 0, none⟩ = some (.slice q1 n1 c1) ∧ W.cell? ⟨B, 1, none⟩ = some (.int .i64 (xn : Int)) ∧ W.cell? ⟨B, 2, none⟩ = some (.int .i64 xlast) ∧ W.cell? ⟨B, 3, none⟩ = some (.slice q2 n2 c2) ∧ W.cell? ⟨B, 4, none⟩ = some (.bool xruns) ∧ W.cell? ⟨B, 5, none⟩ = some (.int .i64 xb) ∧ W.cell? ⟨B, 6, none⟩ = some (.int .i64 xq) ∧ W.cell? ⟨B, 7, none⟩ = some (.slice q3 n3 c3) ∧ W.cell? ⟨B, 8, none⟩ = some (.int .i64 xbg) ∧ W.cell? ⟨B, 9, none⟩ = some (.int .i64 xov) ∧ W.cell? ⟨B, 10, none⟩ = some (.int .i64 (xbg + 1))) := fun W hC => by
    have hb := hX3.out.b.chg hC hBR
    exact ⟨hb.cell 0 (by simp [Gv.cs]), hb.cell 1 (by simp [Gv.cs]), hb.cell 2 (by simp [Gv.cs]), hb.cell 3 (by simp [Gv.cs]), hb.cell 4 (by simp [Gv.cs]), hb.cell 5 (by simp [Gv.cs]), hb.cell 6 (by simp [Gv.cs]), hb.cell 7 (by simp [Gv.cs]), hb.cell 8 (by simp [Gv.cs]), hb.cell 9 (by simp [Gv.cs]), hb.cell 10 (by simp [Gv.cs])⟩
  replace hz := Lib.hid hz
  go_region_held3 (fun w' => w'.cell? ⟨B, 0, none⟩ = some (.slice q1 n1 c1) ∧ w'.cell? ⟨B, 1, none⟩ = some (.int .i64 (xn : Int)) ∧ w'.cell? ⟨B, 2, none⟩ = some (.int .i64 xlast) ∧ w'.cell? ⟨B, 3, none⟩ = some (.slice q2 n2 c2) ∧ w'.cell? ⟨B, 4, none⟩ = some (.bool xruns) ∧ w'.cell? ⟨B, 5, none⟩ = some (.int .i64 xb) ∧ w'.cell? ⟨B, 6, none⟩ = some (.int .i64 xq) ∧ w'.cell? ⟨B, 7, none⟩ = some (.slice q3 n3 c3) ∧ w'.cell? ⟨B, 8, none⟩ = some (.int .i64 xbg) ∧ w'.cell? ⟨B, 9, none⟩ = some (.int .i64 xov) ∧ w'.cell? ⟨B, 10, none⟩ = some (.int .i64 (xbg + 1)))
    (first | (refine hz.out _ ?_; repeat (first | (with_reducible exact Chg.refl _ _) | (with_reducible refine Chg.trans ?_ (Chg.setCell _ _ rfl)) | (with_reducible refine Chg.trans ?_ (Chg.of_keeps (Keeps.drew _))))) | go_keep)
    (first | fail)
  all_goals
    have hfb := Blk.keeps (((((((((((hX3.out.r.set 0 (.slice q1 n1 c1)).set 1 (.int .i64 (xn : Int))).set 2 (.int .i64 xlast)).set 3 (.slice q2 n2 c2)).set 4 (.bool xruns)).set 5 (.int .i64 xb)).set 6 (.int .i64 xq)).set 7 (.slice q3 n3 c3)).set 8 (.int .i64 xbg)).set 9 (.int .i64 xov)).set 10 (.int .i64 (xbg + 1))) (Keeps.drew _)
    have hfk := Keeps.trans (Chg.keeps (Chg.trans (Chg.trans (Chg.trans (Chg.trans (Chg.trans (Chg.trans (Chg.trans (Chg.trans (Chg.trans (Chg.trans (Chg.trans (Chg.refl (BR B R) W2) (Chg.setCell (S := BR B R) 0 (.slice q1 n1 c1) (.inr rfl))) (Chg.setCell (S := BR B R) 1 (.int .i64 (xn : Int)) (.inr rfl))) (Chg.setCell (S := BR B R) 2 (.int .i64 xlast) (.inr rfl))) (Chg.setCell (S := BR B R) 3 (.slice q2 n2 c2) (.inr rfl))) (Chg.setCell (S := BR B R) 4 (.bool xruns) (.inr rfl))) (Chg.setCell (S := BR B R) 5 (.int .i64 xb) (.inr rfl))) (Chg.setCell (S := BR B R) 6 (.int .i64 xq) (.inr rfl))) (Chg.setCell (S := BR B R) 7 (.slice q3 n3 c3) (.inr rfl))) (Chg.setCell (S := BR B R) 8 (.int .i64 xbg) (.inr rfl))) (Chg.setCell (S := BR B R) 9 (.int .i64 xov) (.inr rfl))) (Chg.setCell (S := BR B R) 10 (.int .i64 (xbg + 1)) (.inr rfl))) hX3.out.k (fun j hj e => by have := hX3.out.new; rcases e with rfl | rfl <;> omega)) (Keeps.drew _)
    replace hfb := Lib.hid hfb
    replace hfk := Lib.hid hfk
    go_wp2_with fail
    refine bodyPost_ret (results_row_slot rfl _ hfb.out rfl _ Tryd.underlying57 rfl 11 size12 rfl) rfl ⟨rfl, hfk.out⟩
end Go.Proofs.YtefippjakkgjkaaDoor

/- The reference of grace: what its value says; New. -/
namespace Go.Proofs.YtefippjakkgjkaaDoor
open Go.RowKit

/-- The document's grace, but its deeds. -/
structure P12 where
  sc : Option ScSt
  last : Int
  L : List K.C3
  bg : Int
  ov : Int
structure R12 (w : World) (x : Gv) (l : List (Int × Bool)) (p : P12) : Prop where
  u : Deeds w x.u l
  lv : K.Cs3 w x.lv p.L
  runs : x.runs = p.sc.isSome
  sc : ∀ c, p.sc = some c → x.b = (c.began : Int) ∧ x.q = (c.place : Int) ∧ c.Ok ∧ Bools w x.v c.left
  v : ∃ q n c, x.v = .slice q n c
  last : x.last = p.last
  bg : x.bg = p.bg
  ov : x.ov = p.ov
  vlt : ∀ c, x.v.ownBlock = some c → c < w.heap.size
section
variable {w W0 W W' : World} {B R : Nat} {x0 x x' : Gv} {l : List (Int × Bool)} {p0 p p' : P12}
theorem R12.keeps (h : R12 w x l p) (hk : Keeps w W) : R12 W x l p := ⟨h.u.keeps hk, h.lv.keeps hk, h.runs, fun c hc => ⟨(h.sc c hc).1, (h.sc c hc).2.1, (h.sc c hc).2.2.1, (h.sc c hc).2.2.2.keeps hk⟩, h.v, h.last, h.bg, h.ov, fun c hc => Nat.lt_of_lt_of_le (h.vlt c hc) hk.size⟩
theorem R12.sl (h : R12 w x l p) : x.Sl := by
  obtain ⟨q, c, h1, _⟩ := h.u.get
  obtain ⟨q', c', h2, _⟩ := h.lv.get
  exact ⟨⟨_, _, _, h1⟩, ⟨_, _, _, h2⟩, h.v⟩
theorem Gv.Sl.ones (h : x.Sl) : x.Ones := by
  obtain ⟨⟨_, _, _, h1⟩, ⟨_, _, _, h2⟩, ⟨_, _, _, h3⟩⟩ := h
  exact ⟨by rw [h1]; rfl, by rw [h2]; rfl, by rw [h3]; rfl⟩
/-- The boxes are written: what the value says stays. -/
theorem R12.box (r : R12 W x' l p') (h0 : R12 w x0 l p0) (hB : Blk W B 57 x.cs) (hR : Blk W R 57 Gv.zero.cs) (hC : Chg (BR B R) W W') (fu : x'.u = x0.u) (fl : x'.lv = x0.lv ∨ FreshW W0 x'.lv) (hBR : w.heap.size ≤ B ∧ B < R ∧ R < W0.heap.size) : R12 W' x' l p' := by
  have hS : ∀ k, BR B R k → w.heap.size ≤ k ∧ k < W0.heap.size := fun k hk => by rcases hk with rfl | rfl <;> omega
  refine ⟨box_keep (W0 := W0) (by decide) r.u h0.u (.inl fu) hC hS, box_keep (W0 := W0) (by decide) r.lv h0.lv fl hC hS, r.runs, fun c hc => ⟨(r.sc c hc).1, (r.sc c hc).2.1, (r.sc c hc).2.2.1, Slc.chg (r.sc c hc).2.2.2 hC fun b hb hs => ?_⟩, r.v, r.last, r.bg, r.ov, fun c hc => Nat.lt_of_lt_of_le (r.vlt c hc) hC.size⟩
  rcases hs with rfl | rfl
  · exact Bools.sep (r.sc c hc).2.2.2 hB (by simp [Gv.cs]) _ hb rfl
  · exact Bools.sep (r.sc c hc).2.2.2 hR (by simp [Gv.cs]) _ hb rfl
/-- In Poll: the boxes, the value, what is new. -/
structure St12 (w W0 : World) (B R : Nat) (x0 x : Gv) (l : List (Int × Bool)) (p : P12) (W : World) : Prop where
  bx : Bx12 w B R x W
  r : R12 W x l p
  fu : x.u = x0.u
  fl : x.lv = x0.lv ∨ FreshW W0 x.lv
  fv : x.v = x0.v ∨ FreshW W0 x.v
  n : x.n = x0.n
  wt : x.wt = x0.wt
  k : W0.heap.size ≤ W.heap.size
theorem St12.kept (h : St12 w W0 B R x0 x l p W) (hk : Keeps W W') : St12 w W0 B R x0 x l p W' := ⟨h.bx.kept hk, h.r.keeps hk, h.fu, h.fl, h.fv, h.n, h.wt, Nat.le_trans h.k hk.size⟩
/-- The box is written. -/
theorem St12.put (h : St12 w W0 B R x0 x l p W) (h0 : R12 w x0 l p0) (hBR : w.heap.size ≤ B ∧ B < R ∧ R < W0.heap.size) (hb : Bx12 w B R x' W') (hC : Chg (BR B R) W W') (hr : R12 W x' l p') (fu : x'.u = x.u) (fl : x'.lv = x.lv ∨ FreshW W0 x'.lv) (fv : x'.v = x.v ∨ FreshW W0 x'.v) (n : x'.n = x.n) (wt : x'.wt = x.wt) : St12 w W0 B R x0 x' l p' W' := by
  have hfu := fu.trans h.fu
  have hfl : x'.lv = x0.lv ∨ FreshW W0 x'.lv := by
    rcases fl with e | e
    · rw [e]; exact h.fl
    · exact .inr e
  have hfv : x'.v = x0.v ∨ FreshW W0 x'.v := by
    rcases fv with e | e
    · rw [e]; exact h.fv
    · exact .inr e
  exact ⟨hb, hr.box h0 h.bx.b h.bx.r hC hfu hfl hBR, hfu, hfl, hfv, n.trans h.n, wt.trans h.wt, Nat.le_trans h.k hC.size⟩
/-- The result is stored. -/
theorem St12.fin (h : St12 w W0 B R x0 x l p W) (h0 : R12 w x0 l p0) (hBR : w.heap.size ≤ B ∧ B < R ∧ R < W0.heap.size) : Blk (W.setRow R x.cs.toArray) R 57 x.cs ∧ R12 (W.setRow R x.cs.toArray) x l p ∧ Keeps w (W.setRow R x.cs.toArray) :=
  ⟨h.bx.fin.1, h.r.box h0 h.bx.b h.bx.r (Chg.setRow _ (.inr rfl)) h.fu h.fl hBR, h.bx.fin.2⟩
theorem FreshW.from {v : Value} (h : FreshW W v) (hk : W0.heap.size ≤ W.heap.size) : FreshW W0 v := fun c hc => Nat.le_trans hk (h c hc)
theorem FreshW.down {v : Value} (h : FreshW W v) (hk : Keeps w W) : FreshW w v := fun c hc => Nat.le_trans hk.size (h c hc)
theorem Ints.boxes {o : Value} {z : List Int} (h : Ints W o z) (hf : FreshW W0 o) (hC : Chg (BR B R) W W') (hBR : w.heap.size ≤ B ∧ B < R ∧ R < W0.heap.size) : Ints W' o z :=
  Slc.chg h hC fun b hb hs => by have := hf b hb; rcases hs with rfl | rfl <;> omega
/-- At Poll's end. -/
theorem St12.done {o : Value} {z : List Int} (h : St12 w W0 B R x0 x l p W) (hI : Ints W o z) (hF : FreshW W0 o) (h0 : R12 w x0 l p0) (hBR : w.heap.size ≤ B ∧ B < R ∧ R < W0.heap.size) (hK : Keeps w W0) :
    R12 (W.setRow R x.cs.toArray) x l p ∧ Ints (W.setRow R x.cs.toArray) o z ∧ x.n = x0.n ∧ x.wt = x0.wt ∧ x.u = x0.u ∧ (x.lv = x0.lv ∨ FreshW w x.lv) ∧ (x.v = x0.v ∨ FreshW w x.v) ∧ FreshW w o ∧ Keeps w (W.setRow R x.cs.toArray) :=
  ⟨(h.fin h0 hBR).2.1, hI.boxes hF (Chg.setRow _ (.inr rfl)) hBR, h.n, h.wt, h.fu, h.fl.imp id (fun e => e.down hK), h.fv.imp id (fun e => e.down hK), hF.down hK, (h.fin h0 hBR).2.2⟩
end
/-- A look, by the document. -/
def look12 (S : SSt) (p : P12) : P12 := match p.sc with | none => p | some c => if lenN (poll S c 16).left = 0 then ⟨none, p.last, K.left3 p.bg p.L, p.bg, p.bg⟩ else ⟨some (poll S c 16), p.last, p.L, p.bg, p.ov⟩
def out12 (S : SSt) (n : Nat) (p : P12) : List Int := match p.sc with | none => [] | some c => if lenN (poll S c 16).left = 0 then K.tell3 p.bg p.L n else []
def beg12 (S : SSt) (wt : Int) (p : P12) : P12 := if p.sc.isSome = true ∨ (K.open3 p.L = 0 ∧ wt ≤ p.bg) then p else ⟨some ⟨S.m, S.st, 0⟩, p.bg + 1, K.close3 (p.bg + 1) p.L, p.bg + 1, p.ov⟩
theorem look12_same (S : SSt) (p : P12) : (look12 S p).bg = p.bg ∧ (look12 S p).last = p.last ∧ (look12 S p).L.length ≤ p.L.length := by
  unfold look12
  split
  · exact ⟨rfl, rfl, Nat.le_refl _⟩
  · split
    · exact ⟨rfl, rfl, K.left3_len _ _⟩
    · exact ⟨rfl, rfl, Nat.le_refl _⟩
set_option maxRecDepth 100000 in
set_option maxHeartbeats 2000000 in
theorem r12New_any (n : Nat) (w : World) : Calls Tryd.prog 23 #[.int .i64 (n : Int)] w fun e w' => e = .returned (({ Gv.zero with n := n } : Gv).agg) ∧ Keeps w w' := by
  unfold Gv.agg
  go_enter Tryd.func23, Tryd.ntmps23
  go_upto_region 1 with (fail)
  obtain ⟨R, hR⟩ : ∃ R, R = w.heap.size := ⟨_, rfl⟩
  refine wp_gen (fun W => Blk W R 57 Gv.zero.cs ∧ Keeps w W) ⟨by rw [hR]; exact Blk.new _ _ _, Keeps.alloc _ _⟩ ?_
  rw [← hR]
  rintro W ⟨hX, hK⟩
  have hf := hX.setRow ({ Gv.zero with n := n } : Gv).cs
  have hfk := Chg.keeps (S := (· = R)) (Chg.setRow ({ Gv.zero with n := n } : Gv).cs.toArray rfl) hK (fun k hk e => by omega)
  have h1 : ({ Gv.zero with n := n } : Gv).Ones := ⟨rfl, rfl, rfl⟩
  replace hf := Lib.hid hf
  replace hfk := Lib.hid hfk
  replace hX := Lib.hid hX
  replace h1 := Lib.hid h1
  clear hK hR
  go_wp2_with (first | (refine storeG12 (x := { Gv.zero with n := n }) hX.out h1.out rfl _ _ rfl rfl rfl rfl ?_))
  refine bodyPost_ret (results_row rfl _ hf.out rfl _ Tryd.underlying57 rfl 11 size12 rfl) rfl ⟨rfl, hfk.out⟩
end Go.Proofs.YtefippjakkgjkaaDoor

/- The reference of grace: Poll. -/
namespace Go.Proofs.YtefippjakkgjkaaDoor
open Go.RowKit

theorem poll_began12 (S : SSt) (c : ScSt) (n : Int) : (poll S c n).began = c.began := psteps_began S _ c
theorem poll_ok12 {c : ScSt} (h : c.Ok) (S : SSt) (n : Int) : (poll S c n).Ok := psteps_ok S _ c h
set_option maxRecDepth 100000 in
set_option maxHeartbeats 4000000 in
theorem r12Poll_any (x : Gv) (l : List (Int × Bool)) (p : P12) (w : World) (h : R12 w x l p) (hg : Good l) (hl : l.length ≤ 100000) (hL : p.L.length ≤ 100000) (hn : x.n ≤ 64) (h0 : 0 ≤ p.bg) (hb : p.bg < 1000000000) (hlast : p.last ≤ p.bg) :
    Calls Tryd.prog 29 #[x.agg] w fun e w' => ∃ x' o, e = .returned (.tuple #[x'.agg, o]) ∧ R12 w' x' l (beg12 (runD l) x.wt (look12 (runD l) p)) ∧ Ints w' o (out12 (runD l) x.n p) ∧ x'.n = x.n ∧ x'.wt = x.wt ∧ x'.u = x.u ∧ (x'.lv = x.lv ∨ FreshW w x'.lv) ∧ (x'.v = x.v ∨ FreshW w x'.v) ∧ FreshW w o ∧ Keeps w w' := by
  have hone := h.sl.ones
  obtain ⟨sc, last, L, bg, ov⟩ := p
  simp only at hL h0 hb hlast
  replace h := Lib.hid h
  replace hg := Lib.hid hg
  replace hone := Lib.hid hone
  unfold Gv.agg
  go_enter Tryd.func29, Tryd.ntmps29
  go_upto_region 1 with (fail)
  obtain ⟨B, hB⟩ : ∃ B, B = w.heap.size := ⟨_, rfl⟩
  obtain ⟨R, hR⟩ : ∃ R, R = w.heap.size + 1 := ⟨_, rfl⟩
  refine wp_gen (fun W => Bx12 w B R x W) (Bx12.start hB hR) ?_
  rw [← hR, ← hB]
  clear hB hR
  rintro W0 hX
  have hBR : w.heap.size ≤ B ∧ B < R ∧ R < W0.heap.size := ⟨hX.new.1, hX.new.2, hX.r.lt⟩
  have hKw0 := hX.k
  have hSt : St12 w W0 B R x x l ⟨sc, last, L, bg, ov⟩ W0 := ⟨hX, h.out.keeps hX.k, rfl, .inl rfl, .inl rfl, rfl, rfl, Nat.le_refl _⟩
  have z4 := hX.b.cell 4 (by simp [Gv.cs])
  simp only [Gv.cs, List.getElem_cons_zero, List.getElem_cons_succ] at z4
  rw [h.out.runs] at z4
  simp only at z4
  replace hSt := Lib.hid hSt
  replace hBR := Lib.hid hBR
  replace hKw0 := Lib.hid hKw0
  clear hX
  go_upto_if 8 with fail
  go_cut [4] (fun o wx => ∃ x1, St12 w W0 B R x x1 l (look12 (runD l) ⟨sc, last, L, bg, ov⟩) wx ∧ Ints wx o (out12 (runD l) x.n ⟨sc, last, L, bg, ov⟩) ∧ FreshW W0 o)
  case first =>
    cases sc with
    | none =>
      go_wp2_with fail
      go_meet
      exact ⟨x, hSt.out, Slc.nil _, fun c hc => (by simp [Value.ownBlock] at hc)⟩
    | some c =>
      obtain ⟨e1, e2, hcok, hbo⟩ := hSt.out.r.sc c rfl
      have hp := r10Poll_any c hcok.place x.v x.u l 16 W0 hbo hSt.out.r.u hg.out hl
      have hcb := poll_began12 (runD l) c 16
      have hok' := poll_ok12 hcok (runD l) 16
      have el : look12 (runD l) ⟨some c, last, L, bg, ov⟩ = if lenN (poll (runD l) c 16).left = 0 then ⟨none, last, K.left3 bg L, bg, bg⟩ else ⟨some (poll (runD l) c 16), last, L, bg, ov⟩ := rfl
      have eo : out12 (runD l) x.n ⟨some c, last, L, bg, ov⟩ = if lenN (poll (runD l) c 16).left = 0 then K.tell3 bg L x.n else [] := rfl
      rw [← hcb] at hp
      generalize poll (runD l) c 16 = c' at *
      have z0 := hSt.out.bx.b.cell 0 (by simp [Gv.cs])
      have z5 := hSt.out.bx.b.cell 5 (by simp [Gv.cs])
      have z6 := hSt.out.bx.b.cell 6 (by simp [Gv.cs])
      have z7 := hSt.out.bx.b.cell 7 (by simp [Gv.cs])
      simp only [Gv.cs, List.getElem_cons_zero, List.getElem_cons_succ] at z0 z5 z6 z7
      rw [e1, ← hcb] at z5
      rw [e2] at z6
      simp only [scCells] at hp
      replace hp := Lib.hid hp
      replace el := Lib.hid el
      replace eo := Lib.hid eo
      replace hok' := Lib.hid hok'
      clear e1 e2 hcok hbo hcb
      go_wp2_with fail
      with_reducible refine hp.out.mono ?_
      rintro e W2 ⟨v2, rfl, hb2, hk2, hf2⟩
      obtain ⟨vb, voff, vcap, rfl, _, _, hvlt, _⟩ := hb2.open
      have hS2 := hSt.out.kept hk2
      have z5 := hS2.bx.b.cell 5 (by simp [Gv.cs])
      have z6 := hS2.bx.b.cell 6 (by simp [Gv.cs])
      have z7 := hS2.bx.b.cell 7 (by simp [Gv.cs])
      have f5 := hS2.bx.b.frozen 5
      have f6 := hS2.bx.b.frozen 6
      have f7 := hS2.bx.b.frozen 7
      simp only [Gv.cs, List.getElem_cons_zero, List.getElem_cons_succ] at z5 z6 z7
      obtain ⟨x1, hx1⟩ : ∃ x1 : Gv, x1 = { x with b := (c'.began : Int), q := (c'.place : Int), v := .slice (some ⟨vb, voff, none⟩) 64 vcap } := ⟨_, rfl⟩
      have hb3 := ((hS2.bx.set 5 (.int .i64 (c'.began : Int)) (x' := { x with b := (c'.began : Int) }) rfl).set 6 (.int .i64 (c'.place : Int)) (x' := { x with b := (c'.began : Int), q := (c'.place : Int) }) rfl).set 7 (.slice (some ⟨vb, voff, none⟩) 64 vcap) (x' := { x with b := (c'.began : Int), q := (c'.place : Int), v := .slice (some ⟨vb, voff, none⟩) 64 vcap }) rfl
      rw [← hx1] at hb3
      have hr2 : R12 W2 x1 l ⟨some c', last, L, bg, ov⟩ := by
        rw [hx1]
        exact ⟨hS2.r.u, hS2.r.lv, hS2.r.runs, fun c hc => by obtain rfl := Option.some.inj hc; exact ⟨rfl, rfl, hok'.out, hb2⟩, ⟨_, _, _, rfl⟩, hS2.r.last, hS2.r.bg, hS2.r.ov, fun c hc => by simp only [Value.ownBlock, Option.some.injEq] at hc; omega⟩
      have hS3 := hS2.put h.out hBR.out hb3 (((Chg.setCell _ _ (.inl rfl)).trans (Chg.setCell _ _ (.inl rfl))).trans (Chg.setCell _ _ (.inl rfl))) hr2 (by rw [hx1]) (by rw [hx1]; exact .inl rfl) (by rw [hx1]; exact hf2) (by rw [hx1]) (by rw [hx1])
      replace hx1 := Lib.hid hx1
      replace hS3 := Lib.hid hS3
      clear hb2 hk2 hf2 hS2 hb3 hr2 hp hSt
      go_upto_region 4 with (fail)
      refine wp_gen (fun W => St12 w W0 B R x x1 l ⟨some c', last, L, bg, ov⟩ W) hS3.out ?_
      clear hS3 z0 z4 z5 z6 z7 f5 f6 f7
      rintro W3 hS3
      obtain ⟨e1, e2, _, hbo⟩ := hS3.r.sc c' rfl
      have hcnt := r10Count_any (c'.began : Int) (c'.place : Int) x1.v c'.left W3 hbo
      have z5 := hS3.bx.b.cell 5 (by simp [Gv.cs])
      have z6 := hS3.bx.b.cell 6 (by simp [Gv.cs])
      have z7 := hS3.bx.b.cell 7 (by simp [Gv.cs])
      simp only [Gv.cs, List.getElem_cons_zero, List.getElem_cons_succ] at z5 z6 z7
      rw [e1] at z5
      rw [e2] at z6
      replace hS3 := Lib.hid hS3
      replace hcnt := Lib.hid hcnt
      clear e1 e2 hbo
      go_wp2_with fail
      with_reducible refine hcnt.out.mono ?_
      rintro e W4 ⟨rfl, hk4⟩
      have hS4 := hS3.out.kept hk4
      replace hS4 := Lib.hid hS4
      clear hS3 hcnt hk4 z5 z6 z7
      obtain ⟨cn, hcn⟩ : ∃ cn, cn = lenN c'.left := ⟨_, rfl⟩
      rw [← hcn]
      replace hcn := Lib.hid hcn
      by_cases hz : cn = 0
      · subst hz
        have z4 := hS4.out.bx.b.cell 4 (by simp [Gv.cs])
        have z8 := hS4.out.bx.b.cell 8 (by simp [Gv.cs])
        have z9 := hS4.out.bx.b.cell 9 (by simp [Gv.cs])
        have f4 := hS4.out.bx.b.frozen 4
        have f9 := hS4.out.bx.b.frozen 9
        simp only [Gv.cs, List.getElem_cons_zero, List.getElem_cons_succ] at z4 z8 z9
        rw [hS4.out.r.bg] at z8
        simp only at z8
        have hS5 := hS4.out.put (p' := ⟨none, last, L, bg, bg⟩) h.out hBR.out ((hS4.out.bx.set 4 (.bool false) (x' := { x1 with runs := false }) rfl).set 9 (.int .i64 bg) (x' := { x1 with runs := false, ov := bg }) rfl) ((Chg.setCell _ _ (.inl rfl)).trans (Chg.setCell _ _ (.inl rfl))) ⟨hS4.out.r.u, hS4.out.r.lv, rfl, fun c hc => (nomatch hc), hS4.out.r.v, hS4.out.r.last, hS4.out.r.bg, rfl, hS4.out.r.vlt⟩ rfl (.inl rfl) (.inl rfl) rfl rfl
        replace hS5 := Lib.hid hS5
        clear hS4
        go_upto_region 7 with (fail)
        refine wp_gen (fun W => St12 w W0 B R x { x1 with runs := false, ov := bg } l ⟨none, last, L, bg, bg⟩ W) hS5.out ?_
        clear hS5 z4 z8 z9 f4 f9
        rintro W5 hS5
        generalize ({ x1 with runs := false, ov := bg } : Gv) = x2 at hS5
        have hdone := K.r11Done_any x2.n x2.last x2.lv L bg W5 hS5.r.lv hL (by rw [hS5.n]; exact hn)
        unfold K.ls3 at hdone
        have z1 := hS5.bx.b.cell 1 (by simp [Gv.cs])
        have z2 := hS5.bx.b.cell 2 (by simp [Gv.cs])
        have z3 := hS5.bx.b.cell 3 (by simp [Gv.cs])
        have z9 := hS5.bx.b.cell 9 (by simp [Gv.cs])
        simp only [Gv.cs, List.getElem_cons_zero, List.getElem_cons_succ] at z1 z2 z3 z9
        rw [hS5.r.ov] at z9
        simp only at z9
        replace hS5 := Lib.hid hS5
        replace hdone := Lib.hid hdone
        go_wp2_with fail
        with_reducible refine hdone.out.mono ?_
        rintro e W6 ⟨v', y, rfl, hv6, hy6, hf6, hfy6, hk6⟩
        obtain ⟨vq, vc, hve, _⟩ := hv6.get
        obtain ⟨vn, hvn⟩ : ∃ vn, vn = (K.left3 bg L).length := ⟨_, rfl⟩
        rw [← hvn] at hve
        subst hve
        replace hvn := Lib.hid hvn
        have hS6 := hS5.out.kept hk6
        have z1 := hS6.bx.b.cell 1 (by simp [Gv.cs])
        have z2 := hS6.bx.b.cell 2 (by simp [Gv.cs])
        have z3 := hS6.bx.b.cell 3 (by simp [Gv.cs])
        have f1 := hS6.bx.b.frozen 1
        have f2 := hS6.bx.b.frozen 2
        have f3 := hS6.bx.b.frozen 3
        simp only [Gv.cs, List.getElem_cons_zero, List.getElem_cons_succ] at z1 z2 z3
        have hC := (((Chg.setCell (S := BR B R) (w := W6) 1 (.int .i64 (x2.n : Int)) (.inl rfl)).trans (Chg.setCell 2 (.int .i64 x2.last) (.inl rfl))).trans (Chg.setCell 3 (.slice vq vn vc) (.inl rfl)))
        have hS7 := hS6.put (p' := ⟨none, last, K.left3 bg L, bg, bg⟩) h.out hBR.out (((hS6.bx.set 1 (.int .i64 (x2.n : Int)) (x' := x2) rfl).set 2 (.int .i64 x2.last) (x' := x2) rfl).set 3 (.slice vq vn vc) (x' := { x2 with lv := .slice vq vn vc }) rfl) hC ⟨hS6.r.u, hv6, hS6.r.runs, fun c hc => (nomatch hc), hS6.r.v, hS6.r.last, hS6.r.bg, hS6.r.ov, hS6.r.vlt⟩ rfl (.inr (FreshW.from hf6 hS5.out.k)) (.inl rfl) rfl rfl
        rw [hS5.out.n] at hy6
        have hy7 := hy6.boxes (FreshW.from hfy6 hS5.out.k) hC hBR.out
        have hfy := FreshW.from hfy6 hS5.out.k
        replace hS7 := Lib.hid hS7
        replace hy7 := Lib.hid hy7
        replace hfy := Lib.hid hfy
        clear hS5 hS6 hv6 hy6 hf6 hfy6 hk6 hC hdone
        go_wp2_with fail
        go_meet
        exact ⟨_, by rw [el.out, if_pos hcn.out.symm]; exact hS7.out, by rw [eo.out, if_pos hcn.out.symm]; exact hy7.out, hfy.out⟩
      · have hzI : ((cn : Int) == 0) = false := by rw [beq_eq_false_iff_ne]; omega
        go_wp2_with fail
        go_meet
        exact ⟨x1, by rw [el.out, if_neg (by rw [← hcn.out]; exact hz)]; exact hS4.out, by rw [eo.out, if_neg (by rw [← hcn.out]; exact hz)]; exact Slc.nil _, fun c hc => (by simp [Value.ownBlock] at hc)⟩
  case rest =>
    obtain ⟨x1, hSt1, hI, hF⟩ := hcut
    have hs1 := look12_same (runD l) ⟨sc, last, L, bg, ov⟩
    generalize hp1 : look12 (runD l) ⟨sc, last, L, bg, ov⟩ = p1 at *
    generalize hout : out12 (runD l) x.n ⟨sc, last, L, bg, ov⟩ = out at *
    obtain ⟨sc1, last1, L1, bg1, ov1⟩ := p1
    simp only at hs1
    obtain ⟨rfl, rfl, hL1⟩ := hs1
    replace hp1 := Lib.hid hp1
    replace hout := Lib.hid hout
    clear hSt z4
    have hop := K.r11Open_any x1.n x1.last x1.lv L1 wc hSt1.r.lv
    unfold K.ls3 at hop
    have z1 := hSt1.bx.b.cell 1 (by simp [Gv.cs])
    have z2 := hSt1.bx.b.cell 2 (by simp [Gv.cs])
    have z3 := hSt1.bx.b.cell 3 (by simp [Gv.cs])
    simp only [Gv.cs, List.getElem_cons_zero, List.getElem_cons_succ] at z1 z2 z3
    replace hSt1 := Lib.hid hSt1
    replace hI := Lib.hid hI
    replace hF := Lib.hid hF
    replace hop := Lib.hid hop
    go_wp2_with fail
    with_reducible refine hop.out.mono ?_
    rintro e W2 ⟨rfl, hk2⟩
    have hS2 := hSt1.out.kept hk2
    have hI2 : Ints W2 _ out := Slc.below hI.out hk2
    have z4 := hS2.bx.b.cell 4 (by simp [Gv.cs])
    have z8 := hS2.bx.b.cell 8 (by simp [Gv.cs])
    have z10 := hS2.bx.b.cell 10 (by simp [Gv.cs])
    have f8 := hS2.bx.b.frozen 8
    simp only [Gv.cs, List.getElem_cons_zero, List.getElem_cons_succ] at z4 z8 z10
    rw [hS2.r.runs] at z4
    rw [hS2.r.bg] at z8
    rw [hS2.wt] at z10
    simp only at z4 z8
    have hone2 := hS2.r.sl.ones
    obtain ⟨o, ho⟩ : ∃ o, o = K.open3 L1 := ⟨_, rfl⟩
    rw [← ho]
    have ho0 : (0 : Int) ≤ (o : Int) := by omega
    generalize K.most3 L1 = mo at *
    replace hS2 := Lib.hid hS2
    replace hI2 := Lib.hid hI2
    replace ho := Lib.hid ho
    replace hone2 := Lib.hid hone2
    clear hSt1 hI hop hk2 z1 z2 z3
    cases sc1 with
    | some c =>
      go_wp2_with (first | (refine loadG12 hS2.out.bx.b rfl _ rfl rfl ?_) | (refine storeG12 hS2.out.bx.r hone2.out rfl _ _ rfl rfl rfl rfl ?_))
      refine bodyPost_ret (results_row_slot rfl _ (hS2.out.fin h.out hBR.out).1 rfl _ Tryd.underlying57 rfl 11 size12 rfl) rfl ⟨_, _, rfl, ?_⟩
      rw [hp1.out, hout.out, show beg12 (runD l) x.wt ⟨some c, last1, L1, bg1, ov1⟩ = ⟨some c, last1, L1, bg1, ov1⟩ from if_pos (.inl rfl)]
      exact hS2.out.done hI2.out hF.out h.out hBR.out hKw0.out
    | none =>
      by_cases hc : o = 0 ∧ x.wt ≤ bg1
      · obtain ⟨rfl, hw⟩ := hc
        have hwI : ¬ bg1 < x.wt := by omega
        go_wp2_with (first | (refine loadG12 hS2.out.bx.b rfl _ rfl rfl ?_) | (refine storeG12 hS2.out.bx.r hone2.out rfl _ _ rfl rfl rfl rfl ?_))
        refine bodyPost_ret (results_row_slot rfl _ (hS2.out.fin h.out hBR.out).1 rfl _ Tryd.underlying57 rfl 11 size12 rfl) rfl ⟨_, _, rfl, ?_⟩
        rw [hp1.out, hout.out, show beg12 (runD l) x.wt ⟨none, last1, L1, bg1, ov1⟩ = ⟨none, last1, L1, bg1, ov1⟩ from if_pos (.inr ⟨ho.out.symm, hw⟩)]
        exact hS2.out.done hI2.out hF.out h.out hBR.out hKw0.out
      · have hbeg : beg12 (runD l) x.wt ⟨none, last1, L1, bg1, ov1⟩ = ⟨some ⟨(runD l).m, (runD l).st, 0⟩, bg1 + 1, K.close3 (bg1 + 1) L1, bg1 + 1, ov1⟩ := if_neg (by rw [show K.open3 L1 = o from ho.out.symm]; rintro (e | e); exact absurd e Bool.false_ne_true; exact hc e)
        have hcase : (0 : Int) < (o : Int) ∨ (¬ (0 : Int) < (o : Int) ∧ bg1 < x.wt) := by omega
        replace hbeg := Lib.hid hbeg
        have hS3 := hS2.out.put (p' := ⟨none, last1, L1, bg1 + 1, ov1⟩) h.out hBR.out (hS2.out.bx.set 8 (.int .i64 (bg1 + 1)) (x' := { x1 with bg := bg1 + 1 }) rfl) (Chg.setCell _ _ (.inl rfl)) ⟨hS2.out.r.u, hS2.out.r.lv, hS2.out.r.runs, fun c hc => (nomatch hc), hS2.out.r.v, hS2.out.r.last, rfl, hS2.out.r.ov, hS2.out.r.vlt⟩ rfl (.inl rfl) (.inl rfl) rfl rfl
        have hI3 := Ints.boxes hI2.out hF.out (Chg.setCell (S := BR B R) (b := B) 8 (.int .i64 (bg1 + 1)) (.inl rfl)) hBR.out
        replace hS3 := Lib.hid hS3
        replace hI3 := Lib.hid hI3
        clear hS2 hI2 hc hone2 ho
        rcases hcase with hc | ⟨hc, hc2⟩
        all_goals
          go_upto_region 11 with (fail)
          refine wp_gen (fun W => St12 w W0 B R x { x1 with bg := bg1 + 1 } l ⟨none, last1, L1, bg1 + 1, ov1⟩ W ∧ Ints W u4 out) ⟨hS3.out, hI3.out⟩ ?_
          clear hS3 hI3 z4 z8 z10 f8
          rintro W4 ⟨hS4, hI4⟩
          generalize ({ x1 with bg := bg1 + 1 } : Gv) = x2 at hS4
          have hcl := K.r11Close_yes x2.n x2.last x2.lv L1 (bg1 + 1) W4 hS4.r.lv (by omega) (by rw [hS4.r.last]; show last1 ≤ bg1 + 1; omega) (by omega)
          unfold K.ls3 at hcl
          have z1 := hS4.bx.b.cell 1 (by simp [Gv.cs])
          have z2 := hS4.bx.b.cell 2 (by simp [Gv.cs])
          have z3 := hS4.bx.b.cell 3 (by simp [Gv.cs])
          have z8 := hS4.bx.b.cell 8 (by simp [Gv.cs])
          simp only [Gv.cs, List.getElem_cons_zero, List.getElem_cons_succ] at z1 z2 z3 z8
          rw [hS4.r.bg] at z8
          simp only at z8
          replace hS4 := Lib.hid hS4
          replace hI4 := Lib.hid hI4
          replace hcl := Lib.hid hcl
          go_wp2_with fail
          with_reducible refine hcl.out.mono ?_
          rintro e W5 ⟨v', rfl, hv5, hf5, hk5⟩
          obtain ⟨vq, vc, hve, _⟩ := hv5.get
          obtain ⟨vn, hvn⟩ : ∃ vn, vn = (K.close3 (bg1 + 1) L1).length := ⟨_, rfl⟩
          rw [← hvn] at hve
          subst hve
          replace hvn := Lib.hid hvn
          have hS5 := hS4.out.kept hk5
          have hI5 : Ints W5 u4 out := Slc.below hI4.out hk5
          have z1 := hS5.bx.b.cell 1 (by simp [Gv.cs])
          have z2 := hS5.bx.b.cell 2 (by simp [Gv.cs])
          have z3 := hS5.bx.b.cell 3 (by simp [Gv.cs])
          have f1 := hS5.bx.b.frozen 1
          have f2 := hS5.bx.b.frozen 2
          have f3 := hS5.bx.b.frozen 3
          simp only [Gv.cs, List.getElem_cons_zero, List.getElem_cons_succ] at z1 z2 z3
          have hC := (((Chg.setCell (S := BR B R) (w := W5) 1 (.int .i64 (x2.n : Int)) (.inl rfl)).trans (Chg.setCell 2 (.int .i64 (bg1 + 1)) (.inl rfl))).trans (Chg.setCell 3 (.slice vq vn vc) (.inl rfl)))
          have hS6 := hS5.put (p' := ⟨none, bg1 + 1, K.close3 (bg1 + 1) L1, bg1 + 1, ov1⟩) h.out hBR.out (((hS5.bx.set 1 (.int .i64 (x2.n : Int)) (x' := x2) rfl).set 2 (.int .i64 (bg1 + 1)) (x' := { x2 with last := bg1 + 1 }) rfl).set 3 (.slice vq vn vc) (x' := { x2 with last := bg1 + 1, lv := .slice vq vn vc }) rfl) hC ⟨hS5.r.u, hv5, hS5.r.runs, fun c hc => (nomatch hc), hS5.r.v, rfl, hS5.r.bg, hS5.r.ov, hS5.r.vlt⟩ rfl (.inr (FreshW.from hf5 hS4.out.k)) (.inl rfl) rfl rfl
          have hI6 := Ints.boxes hI5 hF.out hC hBR.out
          replace hS6 := Lib.hid hS6
          replace hI6 := Lib.hid hI6
          clear hS4 hS5 hI4 hI5 hv5 hf5 hk5 hC hcl
          go_upto_region 12 with (fail)
          refine wp_gen (fun W => St12 w W0 B R x { x2 with last := bg1 + 1, lv := .slice vq vn vc } l ⟨none, bg1 + 1, K.close3 (bg1 + 1) L1, bg1 + 1, ov1⟩ W ∧ Ints W u4 out) ⟨hS6.out, hI6.out⟩ ?_
          clear hS6 hI6 z1 z2 z3 z8 f1 f2 f3
          rintro W7 ⟨hS7, hI7⟩
          generalize ({ x2 with last := bg1 + 1, lv := .slice vq vn vc } : Gv) = x3 at hS7
          have hnew := r10New_any x3.u l W7 hS7.r.u hg.out hl
          have hcok : (⟨(runD l).m, (runD l).st, 0⟩ : ScSt).Ok := ⟨(runD_ok l).word, show (0 : Nat) < 64 by decide⟩
          have z0 := hS7.bx.b.cell 0 (by simp [Gv.cs])
          simp only [Gv.cs, List.getElem_cons_zero] at z0
          generalize (runD l).st = st at *
          generalize (runD l).m = m at *
          simp only [scCells] at hnew
          replace hS7 := Lib.hid hS7
          replace hI7 := Lib.hid hI7
          replace hnew := Lib.hid hnew
          replace hcok := Lib.hid hcok
          go_wp2_with fail
          with_reducible refine hnew.out.mono ?_
          rintro e W8 ⟨v2, rfl, hb8, hk8, hf8⟩
          obtain ⟨vb, voff, vcap, rfl, _, _, hvlt, _⟩ := hb8.open
          have hS8 := hS7.out.kept hk8
          have hI8 : Ints W8 u4 out := Slc.below hI7.out hk8
          have z4 := hS8.bx.b.cell 4 (by simp [Gv.cs])
          have z5 := hS8.bx.b.cell 5 (by simp [Gv.cs])
          have z6 := hS8.bx.b.cell 6 (by simp [Gv.cs])
          have z7 := hS8.bx.b.cell 7 (by simp [Gv.cs])
          have f4 := hS8.bx.b.frozen 4
          have f5 := hS8.bx.b.frozen 5
          have f6 := hS8.bx.b.frozen 6
          have f7 := hS8.bx.b.frozen 7
          simp only [Gv.cs, List.getElem_cons_zero, List.getElem_cons_succ] at z4 z5 z6 z7
          have hC := ((((Chg.setCell (S := BR B R) (w := W8) 5 (.int .i64 (st : Int)) (.inl rfl)).trans (Chg.setCell 6 (.int .i64 0) (.inl rfl))).trans (Chg.setCell 7 (.slice (some ⟨vb, voff, none⟩) 64 vcap) (.inl rfl))).trans (Chg.setCell 4 (.bool true) (.inl rfl)))
          have hS9 := hS8.put (p' := ⟨some ⟨m, st, 0⟩, bg1 + 1, K.close3 (bg1 + 1) L1, bg1 + 1, ov1⟩) h.out hBR.out ((((hS8.bx.set 5 (.int .i64 (st : Int)) (x' := { x3 with b := (st : Int) }) rfl).set 6 (.int .i64 0) (x' := { x3 with b := (st : Int), q := 0 }) rfl).set 7 (.slice (some ⟨vb, voff, none⟩) 64 vcap) (x' := { x3 with b := (st : Int), q := 0, v := .slice (some ⟨vb, voff, none⟩) 64 vcap }) rfl).set 4 (.bool true) (x' := { x3 with b := (st : Int), q := 0, v := .slice (some ⟨vb, voff, none⟩) 64 vcap, runs := true }) rfl) hC ⟨hS8.r.u, hS8.r.lv, rfl, fun c hc => by obtain rfl := Option.some.inj hc; exact ⟨rfl, rfl, hcok.out, hb8⟩, ⟨_, _, _, rfl⟩, hS8.r.last, hS8.r.bg, hS8.r.ov, fun c hc => by simp only [Value.ownBlock, Option.some.injEq] at hc; omega⟩ rfl (.inl rfl) (.inr (FreshW.from hf8 hS7.out.k)) rfl rfl
          have hI9 := Ints.boxes hI8 hF.out hC hBR.out
          replace hS9 := Lib.hid hS9
          replace hI9 := Lib.hid hI9
          clear hS7 hS8 hI7 hI8 hb8 hk8 hf8 hC hnew
          go_upto_region 14 with (fail)
          refine wp_gen (fun W => St12 w W0 B R x { x3 with b := (st : Int), q := 0, v := .slice (some ⟨vb, voff, none⟩) 64 vcap, runs := true } l ⟨some ⟨m, st, 0⟩, bg1 + 1, K.close3 (bg1 + 1) L1, bg1 + 1, ov1⟩ W ∧ Ints W u4 out) ⟨hS9.out, hI9.out⟩ ?_
          clear hS9 hI9 z0 z4 z5 z6 z7 f4 f5 f6 f7
          rintro W9 ⟨hS9, hI9⟩
          generalize ({ x3 with b := (st : Int), q := 0, v := .slice (some ⟨vb, voff, none⟩) 64 vcap, runs := true } : Gv) = x4 at hS9
          have hone4 := hS9.r.sl.ones
          replace hS9 := Lib.hid hS9
          replace hI9 := Lib.hid hI9
          replace hone4 := Lib.hid hone4
          go_wp2_with (first | (refine loadG12 hS9.out.bx.b rfl _ rfl rfl ?_) | (refine storeG12 hS9.out.bx.r hone4.out rfl _ _ rfl rfl rfl rfl ?_))
          refine bodyPost_ret (results_row_slot rfl _ (hS9.out.fin h.out hBR.out).1 rfl _ Tryd.underlying57 rfl 11 size12 rfl) rfl ⟨_, _, rfl, ?_⟩
          rw [hp1.out, hout.out, hbeg.out]
          exact hS9.out.done hI9.out hF.out h.out hBR.out hKw0.out
end Go.Proofs.YtefippjakkgjkaaDoor
