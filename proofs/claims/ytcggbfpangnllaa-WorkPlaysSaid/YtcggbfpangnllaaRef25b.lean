/- The document's pend: Add, Del, Ready, Begin, End. -/
import Derived.Test.YtcggbfpangnllaaRef25
import Derived.BigRegion
import Derived.BigQuiet
import Derived.Deep.RegionLaw
import Derived.Deep.DeepCutAuto
namespace Go.Proofs.Ytcggbfpangnllaa
open Go.RowKit
/-- 'append(s, x...)' of structs, at a step of a region that draws its order. -/
theorem appNStep {P : Program} {w0 : World} {ops : Array Oper} {o : Oper} {a : Act} {K : Act → World → Prop} {Q : Exit → Act → World → Prop} {E : Prop} (hgd : o.guard = none) (s x : Operand) (T e : TypeId) (z0 : Value) (sz bytes : Nat)
    (ho : o.op = .call { callee := .builtin .append, args := #[s, x], argTypes := #[T, T] }) (ht : P.underlying T = some (.slice e)) (hinfo : (P.info? e).map (fun i => (i.zero, i.size, i.bytes)) = some (some z0, sz, bytes)) (hz : z0.cells.size = sz) (hsz : 0 < sz)
    (base : Nat) (v : Value) (els : List (List Value)) (hs : a.eval s = v) (hown : RowS sz base e w0 v els) (sv : Value) (news : List (List Value)) (hx : a.eval x = sv) (hsrc : SlcS sz w0 sv news) (hy : ∀ el ∈ news, ∀ y ∈ el, y.oneCell' = true)
    (h63 : els.length + news.length ≤ maxLen) (hbytes : (els.length + news.length) * bytes ≤ 140737488355328) (hbase : base ≤ w0.heap.size)
    (h : ∀ v' w1, RowS sz base e w1 v' (els ++ news) → w0.grownBy w1 v.ownBlock → Below base w0 w1 → K (a.put o.dst v') w1) :
    if Region.wanted o (yielded ops a.tmps) = true then Oper.wp P o a w0 K Q else E := by
  have hw : Region.wanted o (yielded ops a.tmps) = true := by simp [Region.wanted, hgd]
  rw [if_pos hw]
  obtain ⟨i0, hi, hz0, hz1, hz2⟩ := info_parts hinfo
  have hns := hsrc.size
  obtain ⟨p, cap, rfl, hl, hc, hn, _, hcell⟩ := hsrc
  cases p with
  | none =>
    obtain rfl := hn rfl
    obtain rfl : news = [] := List.eq_nil_of_length_eq_zero (by omega)
    have hrun := run_append_owned_none (P := P) (w := w0) base T o.type e i0 sz ht hi v els.length els.flatten hown.1
    have := h v w0 (by simpa using hown) ⟨rfl, rfl, rfl, Nat.le_refl _, fun _ _ _ => rfl⟩ (Below.refl _ _)
    unfold Oper.wp
    simp [execOp, ho, resolve, invoke, builtin, hs, hx, hrun, Result.andThen]
    exact this
  | some ad =>
    refine wp_append_own _ s x T ho base e i0 z0 sz bytes ht hi hz0 hz1 hz2 hz hsz v els.length els.flatten hs hown.1 ad news.length cap news.flatten hx (flat_len hns) ?_ (fun u hu => ?_) h63 hbytes hbase ?_
    · intro j u hu
      obtain ⟨hj, rfl⟩ := List.getElem?_eq_some_iff.1 hu
      have hjl : j < news.length * sz := by rw [← flat_len hns]; exact hj
      have hi' : j / sz < news.length := Nat.div_lt_of_lt_mul (by rw [Nat.mul_comm]; exact hjl)
      have hr : j % sz < sz := Nat.mod_lt _ hsz
      have hjj : j / sz * sz + j % sz = j := by rw [Nat.mul_comm]; exact Nat.div_add_mod j sz
      obtain ⟨b, off, hp, hk⟩ := hcell (j / sz) hi'
      simp only [Option.some.injEq] at hp
      subst hp
      have hk' := hk (j % sz) hr
      rw [show off + j / sz * sz + j % sz = off + j by omega] at hk'
      rw [show (⟨b, off, none⟩ : Addr).add j = ⟨b, off + j, none⟩ by unfold Addr.add; split <;> simp_all, hk']
      have hf := flat_get hns (j / sz) (j % sz) hi' hr
      rw [hjj] at hf
      rw [← hf, List.getElem?_eq_getElem hj]
    · obtain ⟨el, h1, h2⟩ := List.mem_flatten.1 hu
      exact hy el h1 u h2
    · intro v' w1 hown' hgrow _
      refine h v' w1 ⟨by rw [List.length_append, List.flatten_append]; exact hown', fun el hel => (List.mem_append.1 hel).elim (hown.2 el) (hns el)⟩ hgrow ((Below.refl base w0).grown hgrow hbase fun j ej => ?_)
      rcases hown.1.2 with ⟨rfl, _⟩ | ⟨g, cap, cur, rfl, hb, _, _⟩
      · simp [Value.ownBlock] at ej
      · obtain rfl : g = j := by simpa [Value.ownBlock] using ej
        exact hb
theorem RowS.emptyAt (sz base : Nat) (e : TypeId) (w : World) (hb : base ≤ w.heap.size) (g : Nat) (hg : g = w.heap.size) : RowS sz base e (w.alloc (.cells #[] e)) (.slice (some ⟨g, 0, none⟩) 0 0) [] := by subst hg; exact RowS.empty sz base e w hb
/-- A value that lies in none of the blocks Z. -/
def InZ (Z : Nat → Prop) (W : World) (v : Value) : Prop := ∀ b, v.ownBlock = some b → ¬ Z b ∧ b < W.heap.size
/-- The document's lists, in memory, and not in Z. -/
structure PD (Z : Nat → Prop) (W : World) (vq vr : Value) (Q R : List Th) : Prop where
  q : Ths W vq Q
  r : Ths W vr R
  zq : InZ Z W vq
  zr : InZ Z W vr
section
variable {Z Z' S : Nat → Prop} {W W' : World} {vq vr u : Value} {Q R l : List Th} {base : Nat}
theorem InZ.size (h : InZ Z W u) (hs : W.heap.size ≤ W'.heap.size) : InZ Z W' u := fun b hb => ⟨(h b hb).1, by have := (h b hb).2; omega⟩
theorem PD.kept (h : PD Z W vq vr Q R) (hk : Keeps W W') : PD Z W' vq vr Q R := ⟨h.q.keeps hk, h.r.keeps hk, h.zq.size hk.size, h.zr.size hk.size⟩
theorem PD.chg (h : PD Z W vq vr Q R) (hc : Chg S W W') (hS : ∀ k, S k → Z k) : PD Z W' vq vr Q R :=
  ⟨SlcS.chg h.q hc fun b hb hs => (h.zq b hb).1 (hS b hs), SlcS.chg h.r hc fun b hb hs => (h.zr b hb).1 (hS b hs), h.zq.size hc.size, h.zr.size hc.size⟩
theorem PD.more (h : PD Z W vq vr Q R) (hz : ∀ b, Z' b → Z b ∨ W.heap.size ≤ b) : PD Z' W vq vr Q R :=
  ⟨h.q, h.r, fun b hb => ⟨fun hz' => (hz b hz').elim (h.zq b hb).1 (fun hl => by have := (h.zq b hb).2; omega), (h.zq b hb).2⟩, fun b hb => ⟨fun hz' => (hz b hz').elim (h.zr b hb).1 (fun hl => by have := (h.zr b hb).2; omega), (h.zr b hb).2⟩⟩
theorem RowT.inZ (h : RowT base W u l) (hz : ∀ b, Z b → b < base) : InZ Z W u := fun b hb => by
  have := row_own h.1 b hb
  exact ⟨fun hz' => by have := hz b hz'; omega, this.2⟩
theorem PD.setq (h : PD Z W vq vr Q R) (hu : RowT base W u l) (hz : ∀ b, Z b → b < base) : PD Z W u vr l R := ⟨hu.ths, h.r, hu.inZ hz, h.zr⟩
theorem PD.setr (h : PD Z W vq vr Q R) (hu : RowT base W u l) (hz : ∀ b, Z b → b < base) : PD Z W vq u Q l := ⟨h.q, hu.ths, h.zq, hu.inZ hz⟩
end
theorem Ths.one {W : World} {v : Value} {l : List Th} (h : Ths W v l) : v.oneCell' = true := by obtain ⟨_, _, rfl, _⟩ := h.get; rfl
theorem sizeP25 : (Try.prog.info? 54).map (·.size) = some 3 := by kernel_rfl
theorem pdC_one {n : Nat} {vq vr : Value} (hq : vq.oneCell' = true) (hr : vr.oneCell' = true) : ∀ c ∈ pdC n vq vr, c.oneCell' = true := by
  intro c hc
  simp only [pdC, List.mem_cons, List.not_mem_nil, or_false] at hc
  rcases hc with rfl | rfl | rfl
  · rfl
  · exact hq
  · exact hr
theorem loadP25 {ops : Array Oper} {rest : List Oper} {o : Oper} {a : Act} {w : World} {Q : Exit → Act → World → Prop} {g n : Nat} {vq vr : Value} (hb : Blk w g 54 (pdC n vq vr)) (hgd : o.guard = none) (x : Operand) (ho : o.op = .load 54 x)
    (hx : a.eval x = .pointer (some ⟨g, 0, none⟩)) (h : wpList Try.prog ops Q rest (a.put o.dst (.agg (pdC n vq vr).toArray)) w) : wpList Try.prog ops Q (o :: rest) a w :=
  loadRow hb hgd _ x ho hx _ Try.underlying54 rfl 3 sizeP25 rfl h
theorem storeP25 {ops : Array Oper} {rest : List Oper} {o : Oper} {a : Act} {w : World} {Q : Exit → Act → World → Prop} {g n n' : Nat} {vq vr vq' vr' : Value} (hb : Blk w g 54 (pdC n' vq' vr')) (hq : vq.oneCell' = true) (hr : vr.oneCell' = true) (hgd : o.guard = none) (x y : Operand) (ho : o.op = .store 54 x y) (hd : o.dst = none)
    (hx : a.eval x = .pointer (some ⟨g, 0, none⟩)) (hy : a.eval y = .agg (pdC n vq vr).toArray) (h : wpList Try.prog ops Q rest a (w.setRow g (pdC n vq vr).toArray)) : wpList Try.prog ops Q (o :: rest) a w :=
  storeRow hb (pdC n vq vr) hgd _ x y ho hd hx hy 3 sizeP25 rfl rfl (pdC_one hq hr) h
/-- Behind the box of the receiver and the result's block. -/
structure Bx25 (w : World) (B R : Nat) (n : Nat) (vq vr : Value) (W : World) : Prop where
  b : Blk W B 54 (pdC n vq vr)
  r : Blk W R 54 (pdC 0 (.slice none 0 0) (.slice none 0 0))
  k : Keeps w W
  newB : w.heap.size ≤ B
  newR : w.heap.size ≤ R
  ne : B ≠ R
section
variable {w W W' : World} {B R n n2 : Nat} {vq vr uq ur : Value} {Q Rn Q2 R2 : List Th} {Z : Nat → Prop}
theorem Bx25.kept (h : Bx25 w B R n vq vr W) (hk : Keeps W W') : Bx25 w B R n vq vr W' := ⟨h.b.keeps hk, h.r.keeps hk, Keeps.trans h.k hk, h.newB, h.newR, h.ne⟩
theorem Bx25.fin (h : Bx25 w B R n vq vr W) : Blk (W.setRow R (pdC n2 uq ur).toArray) R 54 (pdC n2 uq ur) ∧ Keeps w (W.setRow R (pdC n2 uq ur).toArray) :=
  ⟨h.r.setRow _, Chg.keeps (S := fun k => k = R) (Chg.setRow _ rfl) h.k (fun k hk => by have := h.newR; omega)⟩
theorem Bx25.set1 (h : Bx25 w B R n vq vr W) (u : Value) : Bx25 w B R n u vr (W.setCell ⟨B, 1, none⟩ u) :=
  ⟨h.b.set 1 u, h.r.other h.ne.symm 1 u, Chg.keeps (S := fun k => k = B) (Chg.setCell _ _ rfl) h.k (fun k hk => by have := h.newB; omega), h.newB, h.newR, h.ne⟩
theorem Bx25.set2 (h : Bx25 w B R n vq vr W) (u : Value) : Bx25 w B R n vq u (W.setCell ⟨B, 2, none⟩ u) :=
  ⟨h.b.set 2 u, h.r.other h.ne.symm 2 u, Chg.keeps (S := fun k => k = B) (Chg.setCell _ _ rfl) h.k (fun k hk => by have := h.newB; omega), h.newB, h.newR, h.ne⟩
theorem Bx25.row (h : Bx25 w B R n vq vr W) (uq ur : Value) : Bx25 w B R n uq ur (W.setRow B (pdC n uq ur).toArray) :=
  ⟨h.b.setRow _, h.r.otherRow h.ne.symm _, Chg.keeps (S := fun k => k = B) (Chg.setRow _ rfl) h.k (fun k hk => by have := h.newB; omega), h.newB, h.newR, h.ne⟩
theorem Bx25.start {w : World} {B R n : Nat} {vq vr : Value} (h1 : B = w.heap.size) (h2 : R = w.heap.size + 1) :
    Bx25 w B R n vq vr ((w.alloc (.cells (pdC n vq vr).toArray 54)).alloc (.cells (pdC 0 (.slice none 0 0) (.slice none 0 0)).toArray 54)) := by
  subst h1; subst h2
  exact ⟨(Blk.new _ _ _).alloc _, Blk.at (by simp) rfl, (Keeps.alloc _ _).trans (Keeps.alloc _ _), by omega, by omega, by omega⟩
/-- What is forbidden, with the boxes. -/
def ZB (Z : Nat → Prop) (B R : Nat) (b : Nat) : Prop := Z b ∨ b = B ∨ b = R
theorem Bx25.pd (h : Bx25 w B R n vq vr W) (hp : PD Z w vq vr Q Rn) : PD (ZB Z B R) W vq vr Q Rn :=
  (hp.more (Z' := ZB Z B R) fun b hb => by
    rcases hb with hb | rfl | rfl
    · exact .inl hb
    · exact .inr h.newB
    · exact .inr h.newR).kept h.k
theorem PD.unbox (h : PD (ZB Z B R) W vq vr Q Rn) : PD Z W vq vr Q Rn := h.more fun _ hb => .inl (.inl hb)
theorem PD.cellB (h : PD (ZB Z B R) W vq vr Q Rn) (k : Nat) (u : Value) : PD (ZB Z B R) (W.setCell ⟨B, k, none⟩ u) vq vr Q Rn := h.chg (S := (· = B)) (Chg.setCell _ _ rfl) fun _ hk => .inr (.inl hk)
theorem PD.rowB (h : PD (ZB Z B R) W vq vr Q Rn) (cs : Array Value) : PD (ZB Z B R) (W.setRow B cs) vq vr Q Rn := h.chg (S := (· = B)) (Chg.setRow _ rfl) fun _ hk => .inr (.inl hk)
theorem PD.rowR (h : PD (ZB Z B R) W vq vr Q Rn) (cs : Array Value) : PD (ZB Z B R) (W.setRow R cs) vq vr Q Rn := h.chg (S := (· = R)) (Chg.setRow _ rfl) fun _ hk => .inr (.inr hk)
theorem Bx25.low (h : Bx25 w B R n vq vr W) (hZ : ∀ b, Z b → b < w.heap.size) : ∀ b, ZB Z B R b → b < W.heap.size := by
  rintro b (hb | rfl | rfl)
  · have := hZ b hb; have := h.k.size; omega
  · exact h.b.lt
  · exact h.r.lt
set_option maxRecDepth 100000 in
set_option maxHeartbeats 1000000 in
theorem rdel_any (h : PD Z w vq vr Q Rn) (hZ : ∀ b, Z b → b < w.heap.size) (hQ : Q.length ≤ 100000) (id : Int) :
    Calls Try.prog 69 #[pd n vq vr, .int .i64 id] w fun e w' => ∃ uq, e = .returned (.tuple #[pd n uq vr, .bool (lkIB Q id)]) ∧ PD Z w' uq vr (Q.eraseP (·.1 == id)) Rn ∧ Keeps w w' := by
  have hcase := fnd_cases Q id
  obtain ⟨p, cap, rfl, hl, hc, _⟩ := h.q.get
  have hlI : (0 : Int) ≤ (Q.length : Int) := by omega
  have hr1 := h.r.one
  replace h := Lib.hid h
  replace hZ := Lib.hid hZ
  replace hr1 := Lib.hid hr1
  unfold pd
  go_enter Try.func69, Try.ntmps69
  go_upto_region 1 with (fail)
  obtain ⟨B, hB⟩ : ∃ B, B = w.heap.size := ⟨_, rfl⟩
  obtain ⟨R, hR⟩ : ∃ R, R = w.heap.size + 1 := ⟨_, rfl⟩
  refine wp_gen (fun W => Bx25 w B R n (.slice p Q.length cap) vr W) (Bx25.start hB hR) ?_
  rw [← hR, ← hB]
  clear hB hR
  rintro W hX
  have z1 := hX.b.cell 1 (by simp [pdC])
  have f1 := hX.b.frozen 1
  simp only [pdC, List.getElem_cons_zero, List.getElem_cons_succ] at z1
  have hP := hX.pd h.out
  have hf := rfind_any hP.q id
  rcases hcase with ⟨h1, h2⟩ | ⟨j, hj, h1, h2, h3⟩
  · have e2 : lkIB Q id = false := by unfold lkIB; rw [h2]; rfl
    have e3 : Q.eraseP (·.1 == id) = Q := List.eraseP_of_forall_not fun x hx => by have := List.find?_eq_none.1 h2 x hx; simpa using this
    rw [h1] at hf
    have hfin := hX.fin (n2 := n) (uq := .slice p Q.length cap) (ur := vr)
    have hPf := (hP.rowR (pdC n (.slice p Q.length cap) vr).toArray).unbox
    replace e3 := Lib.hid e3
    replace e2 := Lib.hid e2
    replace hf := Lib.hid hf
    replace hX := Lib.hid hX
    replace hfin := Lib.hid hfin
    replace hPf := Lib.hid hPf
    clear h1 h2 hP
    go_wp2_with (first | (refine loadP25 hX.out.b rfl _ rfl rfl ?_) | (refine storeP25 hX.out.r rfl hr1.out rfl _ _ rfl rfl rfl rfl ?_) | (refine hf.out.mono ?_; rintro e W2 ⟨rfl, rfl⟩))
    refine bodyPost_ret (results_row_slot rfl _ hfin.out.1 rfl _ Try.underlying54 rfl 3 sizeP25 rfl) rfl ⟨_, by (rw [e2.out]; try rfl), by rw [e3.out]; exact hPf.out, hfin.out.2⟩
  · have e2 : lkIB Q id = true := by unfold lkIB; rw [h2]; rfl
    have hjI : (j : Int) < (Q.length : Int) := by omega
    have hj0 : ¬ (j : Int) < 0 := by omega
    have hj00 : (0 : Int) ≤ (j : Int) := by omega
    have hw := rwithout_any hP.q j hj hQ
    rw [h3] at hw
    rw [h1] at hf
    replace e2 := Lib.hid e2
    replace hf := Lib.hid hf
    replace hX := Lib.hid hX
    replace hP := Lib.hid hP
    replace hw := Lib.hid hw
    clear h1 h2 h3
    go_wp2_with fail
    refine hf.out.mono ?_
    rintro e W2 ⟨rfl, rfl⟩
    go_wp2_with fail
    refine hw.out.mono ?_
    rintro e W3 ⟨uq, rfl, hrow, hK3⟩
    obtain ⟨uq', huq⟩ : ∃ u, u = uq := ⟨_, rfl⟩
    obtain ⟨q2, cap2, hs2⟩ := hrow.any
    generalize (Q.eraseP (·.1 == id)).length = N2 at hs2
    subst hs2
    clear huq uq'
    have hP3 := (hP.out.kept hK3).setq hrow (hX.out.low hZ.out)
    have hu1 := hrow.ths.one
    have hX3 := hX.out.kept hK3
    have f1 := hX3.b.frozen 1
    have z1 := hX3.b.cell 1 (by simp [pdC])
    simp only [pdC, List.getElem_cons_zero, List.getElem_cons_succ] at z1
    have hX4 := hX3.set1 (.slice q2 N2 cap2)
    have hP4 := hP3.cellB 1 (.slice q2 N2 cap2)
    have hfin := hX4.fin (n2 := n) (uq := .slice q2 N2 cap2) (ur := vr)
    have hPf := (hP4.rowR (pdC n (.slice q2 N2 cap2) vr).toArray).unbox
    replace hX4 := Lib.hid hX4
    replace hfin := Lib.hid hfin
    replace hPf := Lib.hid hPf
    replace hu1 := Lib.hid hu1
    clear hP3 hP4 hX3 hX hP hw hf hrow hK3
    go_wp2_with (first | (refine loadP25 hX4.out.b rfl _ rfl rfl ?_) | (refine storeP25 hX4.out.r hu1.out hr1.out rfl _ _ rfl rfl rfl rfl ?_))
    refine bodyPost_ret (results_row_slot rfl _ hfin.out.1 rfl _ Try.underlying54 rfl 3 sizeP25 rfl) rfl ⟨_, by (rw [e2.out]; try rfl), hPf.out, hfin.out.2⟩
/-- A queue's first thing, and whether it can be begun. -/
def rdI (Q : List Th) (c : Int) : Int := match quL Q c with | [] => 0 | x :: _ => x
def rdB (Q R : List Th) (c : Int) : Bool := match quL Q c with | [] => false | x :: _ => !lkIB R x
set_option maxRecDepth 100000 in
set_option maxHeartbeats 1000000 in
theorem rready_any (hq : Ths w vq Q) (hr : Ths w vr Rn) (hQ : Q.length ≤ 100000) (c : Int) :
    Calls Try.prog 52 #[pd n vq vr, .int .i64 c] w fun e w' => e = .returned (.tuple #[.int .i64 (rdI Q c), .bool (rdB Q Rn c)]) ∧ Keeps w w' := by
  obtain ⟨p, cap, rfl, hl, hc, _⟩ := hq.get
  have hr1 := hr.one
  have hqu := fun (W : World) (h : Ths W (.slice p Q.length cap) Q) => rqueue_any (n := n) (vr := vr) h c hQ
  have hin := fun (W : World) (h : Ths W vr Rn) (id : Int) => rin_any (n := n) (vq := .slice p Q.length cap) h id
  replace hq := Lib.hid hq
  replace hr := Lib.hid hr
  replace hqu := Lib.hid hqu
  replace hin := Lib.hid hin
  obtain ⟨zi, hzi⟩ : ∃ z, z = rdI Q c := ⟨_, rfl⟩
  obtain ⟨zb, hzb⟩ : ∃ z, z = rdB Q Rn c := ⟨_, rfl⟩
  rw [← hzi, ← hzb]
  replace hzi := Lib.hid hzi
  replace hzb := Lib.hid hzb
  unfold pd at *
  go_enter Try.func52, Try.ntmps52
  go_upto_region 1 with (fail)
  obtain ⟨B, hB⟩ : ∃ B, B = w.heap.size := ⟨_, rfl⟩
  refine wp_gen (fun W => Blk W B 54 (pdC n (.slice p Q.length cap) vr) ∧ Keeps w W) ⟨by rw [hB]; exact Blk.new _ _ _, Keeps.alloc _ _⟩ ?_
  rw [← hB]
  clear hB
  rintro W ⟨hB, hK⟩
  have hq1 := hqu.out W (hq.out.keeps hK)
  replace hq1 := Lib.hid hq1
  replace hB := Lib.hid hB
  replace hK := Lib.hid hK
  clear hqu
  go_wp2_with (refine loadP25 hB.out rfl _ rfl rfl ?_)
  refine hq1.out.mono ?_
  rintro e W2 ⟨v, rfl, hrow, hK2⟩
  have hB2 := hB.out.keeps hK2
  have hKw := Keeps.trans hK.out hK2
  have z0 := After.cell (hB2.cell 0 (by simp [pdC]))
  have z1 := After.cell (hB2.cell 1 (by simp [pdC]))
  have z2 := After.cell (hB2.cell 2 (by simp [pdC]))
  simp only [pdC, List.getElem_cons_zero, List.getElem_cons_succ] at z0 z1 z2
  cases hL : quL Q c with
  | nil =>
    rw [hL] at hrow
    obtain ⟨q5, cap5, hv5, _⟩ := slc_of_row hrow
    have e1 : zi = 0 := by rw [hzi.out]; unfold rdI; rw [hL]
    have e2 : zb = false := by rw [hzb.out]; unfold rdB; rw [hL]
    subst hv5 e1 e2
    replace hKw := Lib.hid hKw
    clear hrow hK2 hB hK hq1 hB2 z0 z1 z2 hL
    go_wp2_with fail
    go_ret2
    exact ⟨rfl, hKw.out⟩
  | cons x xs =>
    rw [hL] at hrow
    obtain ⟨q5, cap5, hv5, _, _, _, hcell5⟩ := slc_of_row hrow
    obtain ⟨b5, off5, rfl, hc5⟩ := hcell5 0 (by simp)
    subst hv5
    simp only [List.map_cons, List.getD_cons_zero, Nat.add_zero] at hc5
    have e1 : zi = x := by rw [hzi.out]; unfold rdI; rw [hL]
    have e2 : zb = !lkIB Rn x := by rw [hzb.out]; unfold rdB; rw [hL]
    have hr2 := hr.out.keeps hKw
    have hi : ∀ y : After W2, Calls Try.prog 24 #[.agg #[.int .i64 (n : Int), .slice p Q.length cap, vr], .int .i64 x] y.now fun e w' => e = .returned (.tuple #[.int .i64 (lkI Rn x), .bool (lkIB Rn x)]) ∧ ∃ z : After W2, w' = z.now := fun y => After.call y (hin.out y.now (hr2.keeps y.keeps) x)
    have hxl : (0 : Int) ≤ (xs.length : Int) := by omega
    have hxl1 : ¬ ((xs.length + 1 : Nat) : Int) = 0 := by omega
    have hxl2 : (0 : Int) < ((xs.length + 1 : Nat) : Int) := by omega
    have y5 := After.cell hc5
    have hc5' := hc5
    generalize lkI Rn x = zz at *
    generalize lkIB Rn x = zb2 at *
    replace e1 := Lib.hid e1
    replace e2 := Lib.hid e2
    replace hi := Lib.hid hi
    replace hKw := Lib.hid hKw
    replace hB2 := Lib.hid hB2
    replace hc5' := Lib.hid hc5'
    clear hrow hK2 hB hK hq1 hcell5 hL hin hr2
    go_wp2_with fail
    refine region_after (by kernel_rfl) (by kernel_rfl) ?_
    repeat go_big_quiet_step (first | (with_reducible exact hi.out _))
    refine wpQuiet_nil ?_
    rintro _ ⟨⟨W3, hK3⟩, rfl⟩
    have hc6 := (World.cell?_of_block (a := ⟨b5, off5, none⟩) (hK3.block b5 (cell_lt hc5'.out))).trans hc5'.out
    replace hKw := Lib.hid (Keeps.trans hKw.out hK3)
    clear hi y5 z0 z1 z2 hB2 hK3
    go_wp2_with fail
    go_ret2
    exact ⟨by (rw [e1.out, e2.out]; try rfl), hKw.out⟩
/-- What adding makes. -/
def addM (Q : List Th) (c : Int) : List Int → List Th × Int
  | [] => (Q, 0)
  | x :: xs => if 0 ≤ x ∧ x < 256 then (if lkIB Q x then (Q, 5) else addM (Q ++ [(x, c)]) c xs) else (Q, 2)
set_option maxRecDepth 100000 in
set_option maxHeartbeats 1000000 in
theorem radd_no (h : PD Z w vq vr Q Rn) (hZ : ∀ b, Z b → b < w.heap.size) (v : Value) (c : Int) (hc : c < 0 ∨ (n : Int) ≤ c) :
    Calls Try.prog 68 #[pd n vq vr, .int .i64 c, v] w fun e w' => e = .returned (.tuple #[pd n vq vr, .int .i64 2]) ∧ PD Z w' vq vr Q Rn ∧ Keeps w w' := by
  have hq1 := h.q.one
  have hr1 := h.r.one
  have hcase : c < 0 ∨ (¬ c < 0 ∧ (n : Int) ≤ c) := by omega
  replace h := Lib.hid h
  replace hZ := Lib.hid hZ
  replace hq1 := Lib.hid hq1
  replace hr1 := Lib.hid hr1
  clear hc
  unfold pd
  go_enter Try.func68, Try.ntmps68
  go_upto_region 1 with (fail)
  obtain ⟨B, hB⟩ : ∃ B, B = w.heap.size := ⟨_, rfl⟩
  obtain ⟨R, hR⟩ : ∃ R, R = w.heap.size + 1 := ⟨_, rfl⟩
  refine wp_gen (fun W => Bx25 w B R n vq vr W) (Bx25.start hB hR) ?_
  rw [← hR, ← hB]
  clear hB hR
  rintro W hX
  have z0 := hX.b.cell 0 (by simp [pdC])
  simp only [pdC, List.getElem_cons_zero] at z0
  have hP := hX.pd h.out
  have hfin := hX.fin (n2 := n) (uq := vq) (ur := vr)
  have hPf := (hP.rowR (pdC n vq vr).toArray).unbox
  replace hX := Lib.hid hX
  replace hfin := Lib.hid hfin
  replace hPf := Lib.hid hPf
  clear hP
  rcases hcase with h1 | ⟨h1, h2⟩
  all_goals
    go_wp2_with (first | (refine loadP25 hX.out.b rfl _ rfl rfl ?_) | (refine storeP25 hX.out.r hq1.out hr1.out rfl _ _ rfl rfl rfl rfl ?_))
    refine bodyPost_ret (results_row_slot rfl _ hfin.out.1 rfl _ Try.underlying54 rfl 3 sizeP25 rfl) rfl ⟨rfl, hPf.out, hfin.out.2⟩
set_option maxRecDepth 100000 in
set_option maxHeartbeats 2000000 in
theorem radd_any (h : PD Z w vq vr Q Rn) (hZ : ∀ b, Z b → b < w.heap.size) (v : Value) (ids : List Int) (hv : Ints w v ids) (c : Nat) (hcn : c < n) (hQ : Q.length ≤ 10000) (hi : ids.length ≤ 10000) :
    Calls Try.prog 68 #[pd n vq vr, .int .i64 (c : Int), v] w fun e w' => ∃ uq, e = .returned (.tuple #[pd n uq vr, .int .i64 (addM Q c ids).2]) ∧ PD Z w' uq vr (addM Q c ids).1 Rn ∧ Keeps w w' := by
  have hr1 := h.r.one
  have hcI : ¬ (c : Int) < 0 := by omega
  have hcI2 : ¬ (n : Int) ≤ (c : Int) := by omega
  obtain ⟨q, capI, rfl, hl2, hc2, _⟩ := hv.open
  have hliI : (0 : Int) ≤ (ids.length : Int) := by omega
  obtain ⟨p, cap, rfl, hl, hc, _⟩ := h.q.get
  obtain ⟨z, hz⟩ : ∃ z, addM Q c ids = z := ⟨_, rfl⟩
  rw [hz]
  replace hz := Lib.hid hz
  replace h := Lib.hid h
  replace hZ := Lib.hid hZ
  replace hr1 := Lib.hid hr1
  replace hv := Lib.hid hv
  unfold pd
  go_enter Try.func68, Try.ntmps68
  go_upto_region 1 with (fail)
  obtain ⟨B, hB⟩ : ∃ B, B = w.heap.size := ⟨_, rfl⟩
  obtain ⟨R, hR⟩ : ∃ R, R = w.heap.size + 1 := ⟨_, rfl⟩
  refine wp_gen (fun W => Bx25 w B R n (.slice p Q.length cap) vr W) (Bx25.start hB hR) ?_
  rw [← hR, ← hB]
  clear hB hR
  rintro W hX
  have z0 := hX.b.cell 0 (by simp [pdC])
  simp only [pdC, List.getElem_cons_zero] at z0
  have hP := hX.pd h.out
  have hlow := hX.low hZ.out
  replace hX := Lib.hid hX
  replace hP := Lib.hid hP
  replace hlow := Lib.hid hlow
  go_wp2_with fail
  go_loopw [8] (fun i wr => ∃ (k : Nat) (Qk : List Th) (vk : Value), k ≤ ids.length ∧ i = .int .i64 (k : Int) ∧ Bx25 w B R n vk vr wr ∧ PD (ZB Z B R) wr vk vr Qk Rn ∧ addM Qk c (ids.drop k) = z ∧ Qk.length ≤ Q.length + k) (fun i _ => ids.length - (intOf i).toNat)
  case atStart => exact ⟨0, Q, _, by omega, rfl, hX.out, hP.out, hz.out, by omega⟩
  case round =>
    clear hX hP hlow z0
    obtain ⟨k, Qk, vk, hk, rfl, hX, hP, ha, hQk⟩ := hrel
    have hv0 := hv
    clear hv
    have hv : Ints wr (.slice q ids.length capI) ids := Slc.below hv0.out hX.k
    have hlow := hX.low hZ.out
    by_cases hlt : k < ids.length
    · have hltI := Int.ofNat_lt.2 hlt
      have hk0 : (0 : Int) ≤ (k : Int) := by omega
      obtain ⟨q', c', hv', _, _, hcell⟩ := hv.open
      obtain ⟨b, off, hb1, hb2⟩ := hcell k hlt
      simp only [Value.slice.injEq] at hv'
      obtain rfl : q = some ⟨b, off, none⟩ := by rw [hv'.1]; exact hb1
      rw [List.drop_eq_getElem_cons hlt] at ha
      generalize ids[k] = x at *
      unfold addM at ha
      clear hcell hv' hb1
      by_cases hx : 0 ≤ x ∧ x < 256
      · rw [if_pos hx] at ha
        obtain ⟨hx0, hx1⟩ := hx
        have hx2 : ¬ 255 < x := by omega
        have hx3 : ¬ x < 0 := by omega
        obtain ⟨p2, cap2, rfl, hl3, hc3, _⟩ := hP.q.get
        have z1 := hX.b.cell 1 (by simp [pdC])
        simp only [pdC, List.getElem_cons_zero, List.getElem_cons_succ] at z1
        have hfd : ∀ y : After wr, Calls Try.prog 53 #[.slice p2 Qk.length cap2, .int .i64 x] y.now fun e w' => e = .returned (.int .i64 (fnd Qk x)) ∧ ∃ z : After wr, w' = z.now := fun y => After.same y (rfind_any (hP.q.keeps y.keeps) x)
        have c1 := After.cell z1
        have c2 := After.cell hb2
        rcases fnd_cases Qk x with ⟨h1, h2⟩ | ⟨j, hj, h1, h2, _⟩
        · have e2 : lkIB Qk x = false := by unfold lkIB; rw [h2]; rfl
          rw [if_neg (by rw [e2]; decide)] at ha
          rw [h1] at hfd
          replace hX := Lib.hid hX
          replace hP := Lib.hid hP
          replace ha := Lib.hid ha
          replace hv := Lib.hid hv
          replace hlow := Lib.hid hlow
          replace hfd := Lib.hid hfd
          clear z1 h1 h2 e2
          go_wp2_with fail
          refine region_after (by kernel_rfl) (by kernel_rfl) ?_
          repeat go_big_quiet_step (first | (with_reducible exact hfd.out _))
          refine wpQuiet_nil ?_
          rintro W3 ⟨⟨_, hK3⟩, rfl⟩
          have hX3 := hX.out.kept hK3
          have hP3 := hP.out.kept hK3
          have hlow3 := hX3.low hZ.out
          have hv3 := Slc.below hv.out hK3
          have z1 := hX3.b.cell 1 (by simp [pdC])
          simp only [pdC, List.getElem_cons_zero, List.getElem_cons_succ] at z1
          have hc6 := (World.cell?_of_block (a := ⟨b, off + k, none⟩) (hK3.block b (cell_lt hb2))).trans hb2
          replace hX3 := Lib.hid hX3
          replace hP3 := Lib.hid hP3
          replace hlow3 := Lib.hid hlow3
          replace hv3 := Lib.hid hv3
          have hsB : ∀ X : World, Below W3.heap.size W3 X → Ths X (.slice p2 Qk.length cap2) Qk := fun X hX => hP3.out.q.keeps hX
          have hkp : ∀ X : World, Below W3.heap.size W3 X → X.cell? ⟨B, 1, none⟩ = some (.slice p2 Qk.length cap2) ∧ X.cell? ⟨b, off + k, none⟩ = some (.int .i64 x) := fun X hX => ⟨(hX.cell (p := ⟨B, 1, none⟩) (cell_lt z1)).trans z1, (hX.cell (p := ⟨b, off + k, none⟩) (cell_lt hc6)).trans hc6⟩
          have bW : Keeps W3 W3.drew := Keeps.drew W3
          have bA : Below W3.heap.size W3 (W3.drew.alloc (.cells #[] 91)) := Keeps.trans bW (Keeps.alloc _ _)
          have bD : Below W3.heap.size W3 (W3.drew.alloc (.cells #[.int .i64 x, .int .i64 (c : Int)] 91)) := Keeps.trans bW (Keeps.alloc _ _)
          have bAD : Below W3.heap.size W3 ((W3.drew.alloc (.cells #[] 91)).alloc (.cells #[.int .i64 x, .int .i64 (c : Int)] 91)) := Keeps.trans bA (Keeps.alloc _ _)
          have bDA : Below W3.heap.size W3 ((W3.drew.alloc (.cells #[.int .i64 x, .int .i64 (c : Int)] 91)).alloc (.cells #[] 91)) := Keeps.trans bD (Keeps.alloc _ _)
          have hn1 : ([] : List (List Value)).length + (Qk.map thE).length ≤ maxLen := by simp; unfold maxLen; omega
          have hn2 : (([] : List (List Value)).length + (Qk.map thE).length) * 16 ≤ 140737488355328 := by simp; omega
          have hn3 : ([] ++ Qk.map thE).length + ([((x, (c : Int)) : Th)].map thE).length ≤ maxLen := by simp; unfold maxLen; omega
          have hn4 : (([] ++ Qk.map thE).length + ([((x, (c : Int)) : Th)].map thE).length) * 16 ≤ 140737488355328 := by simp; omega
          have hbD := bD.size
          have hDA : ∀ w1 : World, ((W3.drew.alloc (.cells #[] 91)).alloc (.cells #[.int .i64 x, .int .i64 (c : Int)] 91)).grownBy w1 (some W3.heap.size) → SlcS 2 w1 (.slice (some ⟨W3.heap.size + 1, 0, none⟩) 1 1) ([((x, (c : Int)) : Th)].map thE) := fun w1 hg =>
            slcs_one ((Blk.at (b := W3.heap.size + 1) (t := 91) (cs := thE (x, (c : Int))) (by simp) rfl).kept hg (by simp)) rfl
          have hDD : ∀ w1 : World, ((W3.drew.alloc (.cells #[.int .i64 x, .int .i64 (c : Int)] 91)).alloc (.cells #[] 91)).grownBy w1 (some (W3.heap.size + 1)) → SlcS 2 w1 (.slice (some ⟨W3.heap.size, 0, none⟩) 1 1) ([((x, (c : Int)) : Th)].map thE) := fun w1 hg =>
            slcs_one (((Blk.new W3.drew 91 (thE (x, (c : Int)))).alloc _).kept hg (by simp)) rfl
          replace hDA := Lib.hid hDA
          replace hDD := Lib.hid hDD
          replace hsB := Lib.hid hsB
          have hkf : ∀ X : World, Below W3.heap.size W3 X → X.frozen? ⟨B, 1, none⟩ = false := fun X hX => (hX3.out.b.keeps hX).frozen 1
          have hsl : ∀ (X : World) (u : Value), RowS 2 W3.heap.size 91 X u (([] ++ Qk.map thE) ++ [((x, (c : Int)) : Th)].map thE) → ∃ q5 cp5, u = .slice q5 (Qk ++ [((x, (c : Int)) : Th)]).length cp5 ∧ RowT W3.heap.size X (.slice q5 (Qk ++ [((x, (c : Int)) : Th)]).length cp5) (Qk ++ [((x, (c : Int)) : Th)]) := fun X u h => by
            have h2 : RowT W3.heap.size X u (Qk ++ [((x, (c : Int)) : Th)]) := by unfold RowT; rw [List.map_append]; simpa using h
            obtain ⟨q5, cp5, rfl⟩ := h2.any
            exact ⟨q5, cp5, rfl, h2⟩
          have hend : ∀ (X : World) (u : Value), Below W3.heap.size W3 X → RowT W3.heap.size X u (Qk ++ [((x, (c : Int)) : Th)]) → ∃ u2, Bx25 w B R n u2 vr (X.setCell ⟨B, 1, none⟩ u) ∧ PD (ZB Z B R) (X.setCell ⟨B, 1, none⟩ u) u2 vr (Qk ++ [((x, (c : Int)) : Th)]) Rn := fun X u hX hu =>
            ⟨u, (hX3.out.kept hX).set1 u, ((hP3.out.kept hX).setq hu hlow3.out).cellB 1 u⟩
          replace hend := Lib.hid hend
          generalize (Qk ++ [((x, (c : Int)) : Th)]).length = N5 at hsl
          replace hkf := Lib.hid hkf
          replace hsl := Lib.hid hsl
          have g1 := cell_lt z1
          have g2 := cell_lt hc6
          dsimp only at g1 g2
          have g3 : W3.heap.size ≠ B := by omega
          have g4 : W3.heap.size ≠ b := by omega
          replace hkp := Lib.hid hkp
          replace bA := Lib.hid bA
          replace bD := Lib.hid bD
          replace bAD := Lib.hid bAD
          replace bDA := Lib.hid bDA
          clear hX hP hv hlow hfd hb2 c1 c2 hK3 bW
          go_upto_region 10 with (fail)
          go_region_law
            (first
              | (refine appNStep (by rfl) _ _ 52 91 _ 2 16 (by rfl) Try.underlying52 infoTh rfl (by decide) W3.heap.size _ _ (by rfl) (RowS.empty 2 _ _ W3.drew (Nat.le_refl _)) _ (Qk.map thE) (by rfl) (hsB.out _ bA.out) (th_one Qk) hn1 hn2 bA.out.size ?_; intro v1 w1 hrow hgrow hbel; have hb1 := Below.trans bA.out hbel; obtain ⟨hS1, hS1b⟩ := hkp.out w1 hb1)
              | (refine appNStep (by rfl) _ _ 52 91 _ 2 16 (by rfl) Try.underlying52 infoTh rfl (by decide) W3.heap.size _ _ (by rfl) ((RowS.empty 2 _ _ W3.drew (Nat.le_refl _)).alloc _) _ (Qk.map thE) (by rfl) (hsB.out _ bAD.out) (th_one Qk) hn1 hn2 bAD.out.size ?_; intro v1 w1 hrow hgrow hbel; have hb1 := Below.trans bAD.out hbel; obtain ⟨hS1, hS1b⟩ := hkp.out w1 hb1; have hD := hDA.out w1 hgrow)
              | (refine appNStep (by rfl) _ _ 52 91 _ 2 16 (by rfl) Try.underlying52 infoTh rfl (by decide) W3.heap.size _ _ (by rfl) (RowS.emptyAt 2 _ _ (W3.drew.alloc (.cells #[.int .i64 x, .int .i64 (c : Int)] 91)) hbD (W3.heap.size + 1) (by simp)) _ (Qk.map thE) (by rfl) (hsB.out _ bDA.out) (th_one Qk) hn1 hn2 bDA.out.size ?_; intro v1 w1 hrow hgrow hbel; have hb1 := Below.trans bDA.out hbel; obtain ⟨hS1, hS1b⟩ := hkp.out w1 hb1; have hD := hDD.out w1 hgrow)
              | (refine appNStep (by rfl) _ _ 52 91 _ 2 16 (by rfl) Try.underlying52 infoTh rfl (by decide) W3.heap.size _ _ (by rfl) hrow _ ([((x, (c : Int)) : Th)].map thE) (by rfl) hD (th_one _) hn3 hn4 hb1.size ?_; intro v2 w2 hrow2 hgrow2 hbel2; have hb2 := Below.trans hb1 hbel2; obtain ⟨hS2, hS2b⟩ := hkp.out w2 hb2; have hf2 := hkf.out w2 hb2; obtain ⟨q5, cp5, rfl, hrw⟩ := hsl.out w2 _ hrow2)
              | (refine appNStep (by rfl) _ _ 52 91 _ 2 16 (by rfl) Try.underlying52 infoTh rfl (by decide) W3.heap.size _ _ (by rfl) (hrow.alloc _) _ ([((x, (c : Int)) : Th)].map thE) (by rfl) (slcs_one (Blk.new w1 91 (thE (x, (c : Int)))) rfl) (th_one _) hn3 hn4 (by rw [World.size_alloc]; exact Nat.le_succ_of_le hb1.size) ?_; intro v2 w2 hrow2 hgrow2 hbel2; have hb2 := Below.trans (Below.trans hb1 (Below.mono (Keeps.alloc w1 _) hb1.size)) hbel2; obtain ⟨hS2, hS2b⟩ := hkp.out w2 hb2; have hf2 := hkf.out w2 hb2; obtain ⟨q5, cp5, rfl, hrw⟩ := hsl.out w2 _ hrow2))
          all_goals
            obtain ⟨u2, hX4, hP4⟩ := hend.out _ _ hb2 hrw
            replace hX4 := Lib.hid hX4
            replace hP4 := Lib.hid hP4
            clear hX3 hP3 hlow3 hv3 z1 hc6 hsl hend hkp hkf hsB hDA hDD bA bD bAD bDA hn1 hn2 hn3 hn4 hbD g1 g2 g3 g4 hb1 hb2 hrw hrow hgrow hbel hrow2 hgrow2 hbel2 hS1 hS1b hS2 hS2b hf2
            go_wp2_with fail
            go_roundw
            case rel => exact ⟨k + 1, _, u2, by omega, by go_num, hX4.out, hP4.out, ha.out, by rw [List.length_append, List.length_singleton]; omega⟩
            case measure => (simp [intOf]; try omega)
        · have e2 : lkIB Qk x = true := by unfold lkIB; rw [h2]; rfl
          rw [if_pos e2] at ha
          rw [h1] at hfd
          have hjI : ¬ (j : Int) < 0 := by omega
          have hjI0 : (0 : Int) ≤ (j : Int) := by omega
          replace hX := Lib.hid hX
          replace hP := Lib.hid hP
          replace ha := Lib.hid ha
          replace hfd := Lib.hid hfd
          clear z1 h1 h2 e2 hv hlow
          go_wp2_with fail
          refine region_after (by kernel_rfl) (by kernel_rfl) ?_
          repeat go_big_quiet_step (first | (with_reducible exact hfd.out _))
          refine wpQuiet_nil ?_
          rintro _ ⟨⟨W3, hK3⟩, rfl⟩
          have hX3 := hX.out.kept hK3
          have hP3 := hP.out.kept hK3
          have hfin := hX3.fin (n2 := n) (uq := .slice p2 Qk.length cap2) (ur := vr)
          have hPf := (hP3.rowR (pdC n (.slice p2 Qk.length cap2) vr).toArray).unbox
          replace hX3 := Lib.hid hX3
          replace hfin := Lib.hid hfin
          replace hPf := Lib.hid hPf
          clear hX hP hP3 hfd hb2 c1 c2 hK3
          go_wp2_with (first | (refine loadP25 hX3.out.b rfl _ rfl rfl ?_) | (refine storeP25 hX3.out.r rfl hr1.out rfl _ _ rfl rfl rfl rfl ?_))
          refine bodyPost_ret (results_row_slot rfl _ hfin.out.1 rfl _ Try.underlying54 rfl 3 sizeP25 rfl) rfl ⟨_, by rw [← ha.out]; rfl, by rw [← ha.out]; exact hPf.out, hfin.out.2⟩
      · rw [if_neg hx] at ha
        have hcx : x < 0 ∨ (¬ x < 0 ∧ 255 < x) := by omega
        obtain ⟨p2, cap2, rfl, hl3, hc3, _⟩ := hP.q.get
        have hfin := hX.fin (n2 := n) (uq := .slice p2 Qk.length cap2) (ur := vr)
        have hPf := (hP.rowR (pdC n (.slice p2 Qk.length cap2) vr).toArray).unbox
        replace hX := Lib.hid hX
        replace hfin := Lib.hid hfin
        replace hPf := Lib.hid hPf
        replace ha := Lib.hid ha
        replace hv := Lib.hid hv
        replace hlow := Lib.hid hlow
        clear hx hP
        rcases hcx with h1 | ⟨h1, h2⟩
        all_goals
          go_wp2_with (first | (refine loadP25 hX.out.b rfl _ rfl rfl ?_) | (refine storeP25 hX.out.r rfl hr1.out rfl _ _ rfl rfl rfl rfl ?_))
          refine bodyPost_ret (results_row_slot rfl _ hfin.out.1 rfl _ Try.underlying54 rfl 3 sizeP25 rfl) rfl ⟨_, by rw [← ha.out]; rfl, by rw [← ha.out]; exact hPf.out, hfin.out.2⟩
    · obtain rfl : k = ids.length := by omega
      rw [List.drop_length] at ha
      unfold addM at ha
      obtain ⟨p2, cap2, rfl, hl3, hc3, _⟩ := hP.q.get
      have hfin := hX.fin (n2 := n) (uq := .slice p2 Qk.length cap2) (ur := vr)
      have hPf := (hP.rowR (pdC n (.slice p2 Qk.length cap2) vr).toArray).unbox
      replace hX := Lib.hid hX
      replace hfin := Lib.hid hfin
      replace hPf := Lib.hid hPf
      replace ha := Lib.hid ha
      replace hv := Lib.hid hv
      replace hlow := Lib.hid hlow
      clear hP
      go_wp2_with (first | (refine loadP25 hX.out.b rfl _ rfl rfl ?_) | (refine storeP25 hX.out.r rfl hr1.out rfl _ _ rfl rfl rfl rfl ?_))
      refine bodyPost_ret (results_row_slot rfl _ hfin.out.1 rfl _ Try.underlying54 rfl 3 sizeP25 rfl) rfl ⟨_, by rw [← ha.out]; rfl, by rw [← ha.out]; exact hPf.out, hfin.out.2⟩
end
end Go.Proofs.Ytcggbfpangnllaa
