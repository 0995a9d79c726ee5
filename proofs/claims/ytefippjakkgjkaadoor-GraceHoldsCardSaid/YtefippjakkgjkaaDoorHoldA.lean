/- GraceHolds: what its walk keeps in memory. -/
import Derived.Test.YtefippjakkgjkaaDoorHoldN
import Derived.Test.YtefippjakkgjkaaDoorInsC
namespace Go.Proofs.YtefippjakkgjkaaDoor
open Go.RowKit

/-- Several cells of a row are set. -/
def updL (f : Nat → Int) (o : Nat) : List Int → Nat → Int
  | [] => f
  | z :: zs => updL (upd f o z) (o + 1) zs
theorem updL_at (zs : List Int) : ∀ (f : Nat → Int) (o j : Nat), updL f o zs j = if o ≤ j ∧ j < o + zs.length then zs.getD (j - o) 0 else f j := by
  induction zs with
  | nil => intro f o j; rw [if_neg (by simp)]; rfl
  | cons z zs ih =>
    intro f o j
    rw [updL, ih]
    by_cases e : j = o
    · subst e; rw [if_neg (by omega), if_pos (by simp), Nat.sub_self, upd_same]; rfl
    · rw [upd_ne _ _ e]
      by_cases h : o + 1 ≤ j ∧ j < o + 1 + zs.length
      · rw [if_pos h, if_pos (by simp; omega), show j - o = j - (o + 1) + 1 by omega]; rfl
      · rw [if_neg h, if_neg (by simp; omega)]
theorem arr_updL {b n : Nat} {t : TypeId} (zs : List Int) : ∀ {W : World} {f : Nat → Int} (o : Nat), Blk W b t (arr n f) → Blk (W.setCells b o (zs.map (Value.int .i64))) b t (arr n (updL f o zs)) := by
  induction zs with
  | nil => intro W f o h; exact h
  | cons z zs ih =>
    intro W f o h
    exact ih (o + 1) (arr_upd h o z)
theorem chg_setCells {S : Nat → Prop} {b : Nat} (hb : S b) (vs : List Value) : ∀ {W : World} (o : Nat), Chg S W (W.setCells b o vs) := by
  induction vs with
  | nil => intro W o; exact Chg.refl S W
  | cons v vs ih =>
    intro W o
    exact (Chg.setCell o v hb).trans (ih (o + 1))
theorem arr_range {W : World} {b N n o : Nat} {t : TypeId} {f g : Nat → Int} (h : Blk W b t (arr N f)) (ho : o + n ≤ N) (hg : ∀ r, r < n → g r = f (o + r)) : W.rangeAt b o (arr n g) := by
  intro j v hv
  obtain ⟨hj, hv⟩ := List.getElem?_eq_some_iff.1 hv
  rw [arr_len] at hj
  rw [arr_cell h (o + j) (by omega), ← hv]
  simp only [arr, List.getElem_map, List.getElem_range, hg j hj]
theorem arr_there {W : World} {b N n o : Nat} {t : TypeId} {f : Nat → Int} (h : Blk W b t (arr N f)) (ho : o + n ≤ N) : W.there b o n := by
  intro j hj
  rw [arr_cell h (o + j) (by omega)]
  exact ⟨rfl, h.frozen _⟩
/-- The stamps of the readers' sections. -/
def secF (S : SSt) : Nat → Int := fun r => (S.sin r : Int)
theorem row_updL (pf : Nat → Int) (i : Nat) (S : SSt) : updL pf (64 * i) ((List.range 64).map (secF S)) = rowF pf i S := by
  funext j
  rw [updL_at, List.length_map, List.length_range]
  unfold rowF
  by_cases h : 64 * i ≤ j ∧ j < 64 * i + 64
  · rw [if_pos h, if_pos h]
    have : j - 64 * i < 64 := by omega
    simp [List.getD, this, secF]
  · rw [if_neg h, if_neg h]
theorem arr_map (n : Nat) (f : Nat → Int) : arr n f = ((List.range n).map f).map (Value.int .i64) := by
  unfold arr; rw [List.map_map]; rfl
theorem rowU : Tryd.prog.underlying 27 = some (.array 64 3) := by kernel_rfl
theorem rowZ : (Tryd.prog.info? 27).map (·.size) = some 64 := by kernel_rfl

/-- What holds while GraceHolds goes. -/
structure HI (w : World) (g sp p rb cap : Nat) (pp bb : Nat → Nat) (xb ab tb kb : Nat) (G : GSt) (pf t tk : Nat → Int) (W : World) : Prop where
  ins : InsAt W g sp p rb cap 4 pp bb xb G
  ba : Blk W ab 30 (arr 5120 pf)
  bt : Blk W tb 31 (arr 80 t)
  bk : Blk W kb 31 (arr 80 tk)
  new : ∀ b, GF g sp p rb 4 pp bb G.sc b → w.heap.size ≤ b
  st : w.heap.size ≤ xb ∧ w.heap.size ≤ ab ∧ w.heap.size ≤ tb ∧ w.heap.size ≤ kb
  nf : ¬ GF g sp p rb 4 pp bb G.sc ab ∧ ¬ GF g sp p rb 4 pp bb G.sc tb ∧ ¬ GF g sp p rb 4 pp bb G.sc kb
  ne : xb ≠ ab ∧ xb ≠ tb ∧ xb ≠ kb ∧ ab ≠ tb ∧ ab ≠ kb ∧ tb ≠ kb
  keeps : Keeps w W
section
variable {w W W' : World} {g sp p rb cap : Nat} {pp bb : Nat → Nat} {xb ab tb kb : Nat} {G G' : GSt} {pf t tk : Nat → Int}
theorem HI.kept (h : HI w g sp p rb cap pp bb xb ab tb kb G pf t tk W) (hk : Keeps W W') : HI w g sp p rb cap pp bb xb ab tb kb G pf t tk W' :=
  ⟨h.ins.keeps hk, h.ba.keeps hk, h.bt.keeps hk, h.bk.keeps hk, h.new, h.st, h.nf, h.ne, Keeps.trans h.keeps hk⟩
/-- The grace has gone on, and the readers' places. -/
theorem HI.chg {D : Nat → Prop} (h : HI w g sp p rb cap pp bb xb ab tb kb G pf t tk W) (hi : InsAt W' g sp p rb cap 4 pp bb xb G') (hc : Chg D W W') (hD : ∀ b, D b → b = xb ∨ GF g sp p rb 4 pp bb G.sc b) (hn : ∀ b, GF g sp p rb 4 pp bb G'.sc b → GF g sp p rb 4 pp bb G.sc b ∨ W.heap.size ≤ b) : HI w g sp p rb cap pp bb xb ab tb kb G' pf t tk W' := by
  obtain ⟨n1, n2, n3⟩ := h.nf
  obtain ⟨e1, e2, e3, e4, e5, e6⟩ := h.ne
  have la := h.ba.lt; have lt := h.bt.lt; have lk := h.bk.lt
  have dn : ∀ b, b ≠ xb → ¬ GF g sp p rb 4 pp bb G.sc b → ¬ D b := fun b h1 h2 h3 => (hD b h3).elim h1 h2
  have hg : ∀ b, b < W.heap.size → ¬ GF g sp p rb 4 pp bb G.sc b → ¬ GF g sp p rb 4 pp bb G'.sc b := fun b hl h1 h2 => (hn b h2).elim h1 (fun h3 => by omega)
  refine ⟨hi, h.ba.chg hc (dn ab (Ne.symm e1) n1), h.bt.chg hc (dn tb (Ne.symm e2) n2), h.bk.chg hc (dn kb (Ne.symm e3) n3), fun b hb => (hn b hb).elim (h.new b) (fun hl => Nat.le_trans h.keeps.size hl), h.st, ⟨hg ab la n1, hg tb lt n2, hg kb lk n3⟩, h.ne, Chg.keeps hc h.keeps fun b hb hd => ?_⟩
  rcases hD b hd with e | e
  · have := h.st.1; omega
  · have := h.new b e; omega
/-- A row of the law's has changed. -/
theorem HI.own {b : Nat} (h : HI w g sp p rb cap pp bb xb ab tb kb G pf t tk W) (hc : Chg (· = b) W W') (hb : b = ab ∨ b = tb ∨ b = kb) {pf' t' tk' : Nat → Int} (ha : Blk W' ab 30 (arr 5120 pf')) (ht : Blk W' tb 31 (arr 80 t')) (hk : Blk W' kb 31 (arr 80 tk')) : HI w g sp p rb cap pp bb xb ab tb kb G pf' t' tk' W' := by
  obtain ⟨n1, n2, n3⟩ := h.nf
  obtain ⟨e1, e2, e3, e4, e5, e6⟩ := h.ne
  obtain ⟨s1, s2, s3, s4⟩ := h.st
  have nb : ¬ GF g sp p rb 4 pp bb G.sc b := by rcases hb with rfl | rfl | rfl <;> assumption
  have nx : xb ≠ b := by rcases hb with rfl | rfl | rfl <;> assumption
  have sb : w.heap.size ≤ b := by rcases hb with rfl | rfl | rfl <;> assumption
  exact ⟨⟨h.ins.at'.chg hc fun c hc e => nb (e ▸ hc), h.ins.hx.chg hc nx, h.ins.nx⟩, ha, ht, hk, h.new, h.st, h.nf, h.ne, Chg.keeps hc h.keeps fun k hk e => by omega⟩
theorem HI.setT (h : HI w g sp p rb cap pp bb xb ab tb kb G pf t tk W) (k : Nat) (v : Int) : HI w g sp p rb cap pp bb xb ab tb kb G pf (upd t k v) tk (W.setCell ⟨tb, k, none⟩ (.int .i64 v)) :=
  h.own (Chg.setCell _ _ rfl) (.inr (.inl rfl)) (h.ba.other h.ne.2.2.2.1 _ _) (arr_upd h.bt k v) (h.bk.other (Ne.symm h.ne.2.2.2.2.2) _ _)
theorem HI.setK (h : HI w g sp p rb cap pp bb xb ab tb kb G pf t tk W) (k : Nat) (v : Int) : HI w g sp p rb cap pp bb xb ab tb kb G pf t (upd tk k v) (W.setCell ⟨kb, k, none⟩ (.int .i64 v)) :=
  h.own (Chg.setCell _ _ rfl) (.inr (.inr rfl)) (h.ba.other h.ne.2.2.2.2.1 _ _) (h.bt.other h.ne.2.2.2.2.2 _ _) (arr_upd h.bk k v)
theorem HI.setA (h : HI w g sp p rb cap pp bb xb ab tb kb G pf t tk W) (i : Nat) : HI w g sp p rb cap pp bb xb ab tb kb G (rowF pf i G.S) t tk (W.setCells ab (64 * i) (arr 64 (secF G.S))) := by
  have hc := chg_setCells (S := (· = ab)) (W := W) rfl (arr 64 (secF G.S)) (64 * i)
  refine h.own hc (.inl rfl) ?_ (h.bt.chg hc (Ne.symm h.ne.2.2.2.1)) (h.bk.chg hc (Ne.symm h.ne.2.2.2.2.1))
  have := arr_updL ((List.range 64).map (secF G.S)) (64 * i) h.ba
  rwa [row_updL, ← arr_map] at this
theorem HI.enter (h : HI w g sp p rb cap pp bb xb ab tb kb G pf t tk W) (hst : G.S.st + 1 < 1000000) (r : Int) : ∃ k : Nat, k < 64 ∧
    Calls Tryd.prog 9 #[.pointer (some ⟨xb, 0, none⟩), .pointer (some ⟨g, 0, none⟩), .int .i64 r] W fun e w' => ∃ v, e = .returned v ∧ HI w g sp p rb cap pp bb xb ab tb kb { G with S := G.S.ent (k : Int) } pf t tk w' := by
  obtain ⟨k, hk, hr⟩ := rdr_nat r
  refine ⟨k, hk, (xenter_any h.ins hst r k hk hr).mono ?_⟩
  rintro e w' ⟨v, rfl, hi, hc⟩
  exact ⟨v, rfl, h.chg hi hc (fun b hb => hb.elim (fun e => .inr (.inr (.inl e))) .inl) (fun b hb => .inl hb)⟩
theorem HI.exit (h : HI w g sp p rb cap pp bb xb ab tb kb G pf t tk W) (r : Int) : ∃ k : Nat, k < 64 ∧
    Calls Tryd.prog 10 #[.pointer (some ⟨xb, 0, none⟩), .pointer (some ⟨g, 0, none⟩), .int .i64 r] W fun e w' => ∃ v, e = .returned v ∧ HI w g sp p rb cap pp bb xb ab tb kb { G with S := G.S.exi (k : Int) } pf t tk w' := by
  obtain ⟨k, hk, hr⟩ := rdr_nat r
  refine ⟨k, hk, (xexit_any h.ins r k hk hr).mono ?_⟩
  rintro e w' ⟨v, rfl, hi, hc⟩
  exact ⟨v, rfl, h.chg hi hc (fun b hb => hb.elim (fun e => .inr (.inr (.inl e))) .inl) (fun b hb => .inl hb)⟩
theorem HI.call (h : HI w g sp p rb cap pp bb xb ab tb kb G pf t tk W) (c : Nat) (hc : c < 4) (id : Int) (sb : Nat) (hsb : sb = W.heap.size) :
    Calls Tryd.prog 11 #[.pointer (some ⟨g, 0, none⟩), .int .i64 c, .slice (some ⟨sb, 0, none⟩) 1 1] (W.alloc (.cells #[.int .i64 id] 3)) fun e w' => e = .returned (.int .i64 (if 1 ≤ 64 - (G.R.getD c []).length then 0 else 3)) ∧ HI w g sp p rb cap pp bb xb ab tb kb { G with R := G.R.set c (K.addR (G.R.getD c []) [id]) } pf t tk w' := by
  have hfl := h.ins.at'.calls.foot_lt
  have hk := h.kept (Keeps.alloc W (.cells #[.int .i64 id] 3))
  refine (gcall_any hk.ins.at' c hc (.slice (some ⟨sb, 0, none⟩) 1 1) [id] (ints_at W 3 [id] sb hsb (by simp [maxLen])) (fun b hb _ hf => ?_)).mono ?_
  · simp only [Value.ownBlock, Option.some.injEq] at hb; have := hfl b hf; omega
  · rintro e w' ⟨rfl, hG, hC⟩
    exact ⟨rfl, hk.chg ⟨hG, hk.ins.hx.chg hC (fun hb => h.ins.nx (.inr (.inr (.inl hb)))), h.ins.nx⟩ hC (fun b e => .inr (.inr (.inr (.inl e)))) (fun b hb => .inl hb)⟩
theorem HI.ticket (h : HI w g sp p rb cap pp bb xb ab tb kb G pf t tk W) (h0 : 0 ≤ G.began) (h1 : G.began < 1000000000) :
    Calls Tryd.prog 12 #[.pointer (some ⟨g, 0, none⟩)] W fun e w' => e = .returned (.int .i64 (G.began + 1)) ∧ HI w g sp p rb cap pp bb xb ab tb kb { G with want := G.began + 1 } pf t tk w' := by
  refine (gticket_any h.ins.at' h0 h1).mono ?_
  rintro e w' ⟨rfl, hG, hC⟩
  exact ⟨rfl, h.chg ⟨hG, h.ins.hx.chg hC (fun hb => h.ins.nx (.inl hb)), h.ins.nx⟩ hC (fun b e => .inr (.inl e)) (fun b hb => .inl hb)⟩
theorem HI.poll (h : HI w g sp p rb cap pp bb xb ab tb kb G pf t tk W) (hT : TabAt w) (h0 : 0 ≤ G.began) (h1 : G.began < 1000000000) (hl : G.last ≤ G.began) (hn : G.lookS.2.length ≤ 100000) : Calls Tryd.prog 14 #[.pointer (some ⟨g, 0, none⟩)] W fun e w' => ∃ v x, e = .returned v ∧
    Ints w' v G.lookS.2 ∧ (∀ b, v.ownBlock = some b → W.heap.size ≤ b) ∧ HI w g sp p rb cap pp bb xb ab tb kb (G.lookS.1.begS x) pf t tk w' := by
  refine (gpoll_any h.ins.at' (hT.keeps h.keeps) h0 h1 hl hn).mono ?_
  rintro e w' ⟨v, x, rfl, hv, hG, hx, hC⟩
  have hown : ∀ b, v.ownBlock = some b → W.heap.size ≤ b := fun b hb => by
    rcases hv.2 with ⟨h, _⟩ | ⟨g, cap, cur, h, hg, _⟩
    · subst h; simp [Value.ownBlock] at hb
    · subst h; simp [Value.ownBlock] at hb; omega
  have hn : ∀ b, GF g sp p rb 4 pp bb (G.lookS.1.begS x).sc b → GF g sp p rb 4 pp bb G.sc b ∨ W.heap.size ≤ b := fun b hb => by
    rcases hb with hb | hb | hb | hb
    · exact .inl (.inl hb)
    · exact .inl (.inr (.inl hb))
    · exact .inl (.inr (.inr (.inl hb)))
    · rcases sc_poll G x hb with hb | rfl
      · exact .inl (.inr (.inr (.inr hb)))
      · exact .inr hx
  have hxl := h.ins.hx.lt
  have hS : (G.lookS.1.begS x).S = G.S := by
    have e1 : (G.lookS.1.begS x).S = G.lookS.1.S := by
      rcases beg_cases G.lookS.1 x with ⟨e, _⟩ | ⟨_, _, e⟩ <;> rw [e] <;> rfl
    rw [e1]
    rcases look_cases G with ⟨_, e⟩ | ⟨y, hs, ⟨h0, e⟩ | ⟨_, e⟩⟩ <;> rw [e]
  refine ⟨v, x, rfl, slc_of_row hv, hown, h.chg ⟨hG, ?_, fun hb => (hn xb hb).elim h.ins.nx (fun hl => by omega)⟩ hC (fun b hb => .inr hb) hn⟩
  rw [hS]
  exact h.ins.hx.chg hC h.ins.nx
theorem HI.sec (h : HI w g sp p rb cap pp bb xb ab tb kb G pf t tk W) : W.rangeAt xb 64 (arr 64 (secF G.S)) :=
  arr_range h.ins.hx (by decide) fun r hr => (xf_sin G.S r hr).symm
theorem HI.pict (h : HI w g sp p rb cap pp bb xb ab tb kb G pf t tk W) (k : Nat) (hk : k < 80) : W.rangeAt ab (64 * k) (arr 64 fun r => pf (64 * k + r)) :=
  arr_range h.ba (by omega) fun r hr => rfl
end
/-- The world behind the laws' first steps. -/
theorem HI.start {w W : World} {g sp p rb cap : Nat} {pp bb : Nat → Nat} (h : GI w g sp p rb cap 4 pp bb (.new 4) W) (b1 b2 b3 b4 : Nat) (e1 : b1 = W.heap.size) (e2 : b2 = W.heap.size + 1) (e3 : b3 = W.heap.size + 2) (e4 : b4 = W.heap.size + 3) :
    HI w g sp p rb cap pp bb b1 b2 b3 b4 (.new 4) (fun _ => 0) (fun _ => 0) (fun _ => 0)
      ((((W.alloc (.cells (arr 129 fun _ => 0).toArray 29)).alloc (.cells (arr 5120 fun _ => 0).toArray 30)).alloc (.cells (arr 80 fun _ => 0).toArray 31)).alloc (.cells (arr 80 fun _ => 0).toArray 31)) := by
  subst e1; subst e2; subst e3; subst e4
  have hs := h.keeps.size
  have hf := h.at'.lt
  have k1 := Keeps.alloc W (.cells (arr 129 fun _ => 0).toArray 29)
  have bA := Blk.new W 29 (arr 129 fun _ => 0)
  have sA := World.size_alloc W (.cells (arr 129 fun _ => 0).toArray 29)
  generalize W.alloc (.cells (arr 129 fun _ => 0).toArray 29) = A at *
  have k2 := Keeps.alloc A (.cells (arr 5120 fun _ => 0).toArray 30)
  have bB := Blk.new A 30 (arr 5120 fun _ => 0)
  have sB := World.size_alloc A (.cells (arr 5120 fun _ => 0).toArray 30)
  generalize A.alloc (.cells (arr 5120 fun _ => 0).toArray 30) = B at *
  have k3 := Keeps.alloc B (.cells (arr 80 fun _ => 0).toArray 31)
  have bC := Blk.new B 31 (arr 80 fun _ => 0)
  have sC := World.size_alloc B (.cells (arr 80 fun _ => 0).toArray 31)
  generalize B.alloc (.cells (arr 80 fun _ => 0).toArray 31) = C at *
  have k4 := Keeps.alloc C (.cells (arr 80 fun _ => 0).toArray 31)
  have bD := Blk.new C 31 (arr 80 fun _ => 0)
  generalize C.alloc (.cells (arr 80 fun _ => 0).toArray 31) = D at *
  have hx : arr 129 (fun _ => 0) = arr 129 (xf (GSt.new 4).S) := by
    refine xf_ext (fun k _ => ?_) (fun k _ => ?_) rfl
    · show (0 : Int) = (SSt.init.dep k : Int); rw [SSt.init_dep]; rfl
    · show (0 : Int) = (SSt.init.sin k : Int); rw [SSt.init_sin]; rfl
  rw [hx] at bA
  rw [show W.heap.size + 1 = A.heap.size by omega, show W.heap.size + 2 = B.heap.size by omega, show W.heap.size + 3 = C.heap.size by omega]
  have kk := Keeps.trans k1 (Keeps.trans k2 (Keeps.trans k3 k4))
  exact ⟨⟨h.at'.keeps kk, bA.keeps (Keeps.trans k2 (Keeps.trans k3 k4)), fun hh => by have := hf _ hh; omega⟩, bB.keeps (Keeps.trans k3 k4), bC.keeps k4, bD, h.new, ⟨by omega, by omega, by omega, by omega⟩, ⟨fun hh => by have := hf _ hh; omega, fun hh => by have := hf _ hh; omega, fun hh => by have := hf _ hh; omega⟩, ⟨by omega, by omega, by omega, by omega, by omega, by omega⟩, Keeps.trans h.keeps kk⟩
end Go.Proofs.YtefippjakkgjkaaDoor
