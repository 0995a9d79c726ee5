/- Merged: qLaw12g qLaw12h qLaw12i. -/
import Derived.Test.YtefippjakkgjkaaDoorLaw12
import Derived.Test.YtefippjakkgjkaaDoorP12
import Derived.Test.YtefippjakkgjkaaDoorLaw12b
import Derived.Test.YtefippjakkgjkaaDoorQuietRow
import Derived.Test.YtefippjakkgjkaaDoorRef09b
import Derived.Deep.DeepCutAuto
import Derived.Deep.CutBlock
/- GracePlays: what holds while the law goes. -/
namespace Go.Proofs.YtefippjakkgjkaaDoor
open Go.RowKit

/-- What the document's grace is beside a grace. -/
def pG (G : GSt) (L : List K.C3) : P12 := ⟨G.sc.map Prod.snd, G.last, L, G.began, G.done⟩
theorem pG_look (G : GSt) (L : List K.C3) : look12 G.S (pG G L) = pG G.lookS.1 (lookD G L) := by
  unfold look12 pG GSt.lookS lookD
  cases hs : G.sc with
  | none => simp [hs]
  | some y =>
    simp only [Option.map_some]
    by_cases h : lenN (poll G.S y.2 16).left = 0
    · simp [h]
    · simp [h]
theorem pG_out (G : GSt) (n : Nat) (L : List K.C3) : out12 G.S n (pG G L) = lookO G n L := by
  unfold out12 pG lookO
  cases hs : G.sc with
  | none => rfl
  | some y => rfl
theorem pG_beg (G : GSt) (L : List K.C3) (x : Nat) (ho : K.openC G.R.flatten = K.open3 L) : beg12 G.S G.want (pG G L) = pG (G.begS x) (begD G L) := by
  unfold beg12 pG GSt.begS begD
  rw [ho]
  by_cases h : G.sc.isSome = true ∨ (K.open3 L = 0 ∧ G.want ≤ G.began)
  · rw [if_pos h, if_pos h, if_pos (by simpa using h)]
  · rw [if_neg h, if_neg h, if_neg (by simpa using h)]
    rfl
theorem ents_one12 (S : SSt) (r : Int) : (S.ents [r]).2 = S.entE r ∧ (S.ents [r]).1 = S.ent r := by
  rw [SSt.ents_cons]
  by_cases h : S.entE r = 0
  · rw [if_pos h]; exact ⟨h.symm, rfl⟩
  · rw [if_neg h]; exact ⟨rfl, (SSt.ent_bad h).symm⟩
section
variable {w W0 W W' : World} {g sp p rb cap n : Nat} {pp bb : Nat → Nat} {M : Nat} {G G' : GSt} {x x' xm : Gv} {l l' : List (Int × Bool)} {L L' : List K.C3}
/-- The value's rows stay where others are written. -/
theorem R12.chg {S : Nat → Prop} {q : P12} (r : R12 W x l q) (hC : Chg S W W') (hu : ∀ c, x.u.ownBlock = some c → 0 < l.length → ¬ S c) (hl : ∀ c, x.lv.ownBlock = some c → 0 < q.L.length → ¬ S c) (hv : ∀ c, x.v.ownBlock = some c → ¬ S c) : R12 W' x l q :=
  ⟨SlcS.chgN r.u hC fun b hb h0 => hu b hb (by rwa [List.length_map] at h0), SlcS.chgN r.lv hC fun b hb h0 => hl b hb (by rwa [List.length_map] at h0), r.runs, fun c hc => ⟨(r.sc c hc).1, (r.sc c hc).2.1, (r.sc c hc).2.2.1, Slc.chg (r.sc c hc).2.2.2 hC hv⟩, r.v, r.last, r.bg, r.ov, fun c hc => Nat.lt_of_lt_of_le (r.vlt c hc) hC.size⟩
/-- A grace, and the document's (x; its variable holds xm). -/
structure PJ12 (w : World) (g sp p rb cap n : Nat) (pp bb : Nat → Nat) (M : Nat) (xm x : Gv) (G : GSt) (l : List (Int × Bool)) (L : List K.C3) (W : World) : Prop where
  gi : GI w g sp p rb cap n pp bb G W
  bm : Blk W M 57 xm.cs
  r : R12 W x l (pG G L)
  xn : x.n = n
  wt : x.wt = G.want
  good : Good l
  hS : G.S = runD l
  hR : G.R = K.ringsL n L
  fit : K.Fit n G.last L
  new : w.heap.size ≤ M
  nf : ¬ GF g sp p rb n pp bb G.sc M
  sepU : ∀ c, x.u.ownBlock = some c → 0 < l.length → c ≠ M ∧ ¬ GF g sp p rb n pp bb G.sc c
  sepL : ∀ c, x.lv.ownBlock = some c → 0 < L.length → c ≠ M ∧ ¬ GF g sp p rb n pp bb G.sc c
  sepV : ∀ c, x.v.ownBlock = some c → c ≠ M ∧ ¬ GF g sp p rb n pp bb G.sc c
theorem PJ12.kept (h : PJ12 w g sp p rb cap n pp bb M xm x G l L W) (hk : Keeps W W') : PJ12 w g sp p rb cap n pp bb M xm x G l L W' :=
  ⟨h.gi.kept hk, h.bm.keeps hk, h.r.keeps hk, h.xn, h.wt, h.good, h.hS, h.hR, h.fit, h.new, h.nf, h.sepU, h.sepL, h.sepV⟩
/-- The variable takes the value. -/
theorem PJ12.store (h : PJ12 w g sp p rb cap n pp bb M xm x G l L W) : PJ12 w g sp p rb cap n pp bb M x x G l L (W.setRow M x.cs.toArray) := by
  have hC : Chg (· = M) W (W.setRow M x.cs.toArray) := Chg.setRow _ rfl
  refine ⟨⟨h.gi.at'.chg hC fun b hb e => h.nf (e ▸ hb), h.gi.new, Chg.keeps hC h.gi.keeps fun k hk e => by have := h.new; omega⟩, h.bm.setRow _, h.r.chg hC (fun c hc h0 => (h.sepU c hc h0).1) (fun c hc h0 => (h.sepL c hc h0).1) (fun c hc => (h.sepV c hc).1), h.xn, h.wt, h.good, h.hS, h.hR, h.fit, h.new, h.nf, h.sepU, h.sepL, h.sepV⟩
/-- Behind the document's call: the old, and what is to come. -/
structure Mid12 (w W0 : World) (g sp p rb cap n : Nat) (pp bb : Nat → Nat) (M : Nat) (x : Gv) (G : GSt) (l : List (Int × Bool)) (L : List K.C3) (x' : Gv) (l' : List (Int × Bool)) (q : P12) (W : World) : Prop where
  old : PJ12 w g sp p rb cap n pp bb M x x G l L W
  r : R12 W x' l' q
  fu : x'.u = x.u ∨ FreshW W0 x'.u
  fl : x'.lv = x.lv ∨ FreshW W0 x'.lv
  fv : x'.v = x.v ∨ FreshW W0 x'.v
  xn : x'.n = n
  lo : ∀ b, b = M ∨ GF g sp p rb n pp bb G.sc b → b < W0.heap.size
  k : Keeps W0 W
theorem Mid12.kept {q : P12} (h : Mid12 w W0 g sp p rb cap n pp bb M x G l L x' l' q W) (hk : Keeps W W') : Mid12 w W0 g sp p rb cap n pp bb M x G l L x' l' q W' :=
  ⟨h.old.kept hk, h.r.keeps hk, h.fu, h.fl, h.fv, h.xn, h.lo, h.k.trans hk⟩
theorem PJ12.lo (h : PJ12 w g sp p rb cap n pp bb M xm x G l L W) : ∀ b, b = M ∨ GF g sp p rb n pp bb G.sc b → b < W.heap.size := fun b hb => by
  rcases hb with rfl | hb
  · exact h.bm.lt
  · exact h.gi.at'.lt b hb
theorem slc_len {sz : Nat} {u : Value} {a a' : List (List Value)} (h : SlcS sz W u a) (h' : SlcS sz W' u a') : a.length = a'.length := by
  obtain ⟨q, c, e, _⟩ := h.get
  obtain ⟨q', c', e', _⟩ := h'.get
  rw [e] at e'
  simp only [Value.slice.injEq] at e'
  exact e'.2.1
theorem Mid12.sepU {q : P12} (h : Mid12 w W0 g sp p rb cap n pp bb M x G l L x' l' q W) : ∀ c, x'.u.ownBlock = some c → 0 < l'.length → c ≠ M ∧ ¬ GF g sp p rb n pp bb G.sc c := fun c hc h0 => by
  rcases h.fu with e | e
  · have hl := slc_len (u := x.u) (e ▸ h.r.u) h.old.r.u
    rw [List.length_map, List.length_map] at hl
    exact h.old.sepU c (e ▸ hc) (by omega)
  · have := e c hc
    exact ⟨fun e => by have := h.lo c (.inl e); omega, fun e => by have := h.lo c (.inr e); omega⟩
theorem Mid12.sepL {q : P12} (h : Mid12 w W0 g sp p rb cap n pp bb M x G l L x' l' q W) : ∀ c, x'.lv.ownBlock = some c → 0 < q.L.length → c ≠ M ∧ ¬ GF g sp p rb n pp bb G.sc c := fun c hc h0 => by
  rcases h.fl with e | e
  · have hl := slc_len (u := x.lv) (e ▸ h.r.lv) h.old.r.lv
    rw [List.length_map, List.length_map] at hl
    exact h.old.sepL c (e ▸ hc) (by show 0 < L.length; have : (pG G L).L = L := rfl; rw [this] at hl; omega)
  · have := e c hc
    exact ⟨fun e => by have := h.lo c (.inl e); omega, fun e => by have := h.lo c (.inr e); omega⟩
theorem Mid12.sepV {q : P12} (h : Mid12 w W0 g sp p rb cap n pp bb M x G l L x' l' q W) : ∀ c, x'.v.ownBlock = some c → c ≠ M ∧ ¬ GF g sp p rb n pp bb G.sc c := fun c hc => by
  rcases h.fv with e | e
  · exact h.old.sepV c (e ▸ hc)
  · have := e c hc
    exact ⟨fun e => by have := h.lo c (.inl e); omega, fun e => by have := h.lo c (.inr e); omega⟩
/-- Behind the grace's call. -/
theorem Mid12.go (h : Mid12 w W0 g sp p rb cap n pp bb M x G l L x' l' (pG G' L') W) (hg : GraceAt W' g sp p rb cap n pp bb G') (hC : Chg (GF g sp p rb n pp bb G.sc) W W') (hn : ∀ b, GF g sp p rb n pp bb G'.sc b → GF g sp p rb n pp bb G.sc b ∨ W.heap.size ≤ b)
    (wt : x'.wt = G'.want) (good : Good l') (hS : G'.S = runD l') (hR : G'.R = K.ringsL n L') (fit : K.Fit n G'.last L') : PJ12 w g sp p rb cap n pp bb M x x' G' l' L' W' := by
  have far : ∀ c, c < W.heap.size → (c ≠ M ∧ ¬ GF g sp p rb n pp bb G.sc c) → c ≠ M ∧ ¬ GF g sp p rb n pp bb G'.sc c := fun c hc h1 => ⟨h1.1, fun h2 => by
    rcases hn c h2 with h3 | h3
    · exact h1.2 h3
    · omega⟩
  have hML := h.lo M (.inl rfl)
  have hge := h.k.size
  refine ⟨h.old.gi.chg hg hC (fun b hb => hb) hn, h.old.bm.chg hC h.old.nf, h.r.chg hC (fun c hc h0 => (h.sepU c hc h0).2) (fun c hc h0 => (h.sepL c hc h0).2) (fun c hc => (h.sepV c hc).2), h.xn, wt, good, hS, hR, fit, h.old.new, fun h2 => ?_, fun c hc h0 => far c (h.r.u.own_lt (by decide) hc (by rw [List.length_map]; exact h0)) (h.sepU c hc h0), fun c hc h0 => far c (h.r.lv.own_lt (by decide) hc (by rw [List.length_map]; exact h0)) (h.sepL c hc h0), fun c hc => far c (h.r.vlt c hc) (h.sepV c hc)⟩
  rcases hn M h2 with h3 | h3
  · exact h.old.nf h3
  · omega
end
end Go.Proofs.YtefippjakkgjkaaDoor

/- GracePlays: each call, of the document and of the grace. -/
namespace Go.Proofs.YtefippjakkgjkaaDoor
open Go.RowKit

theorem loadA12 {ops : Array Oper} {rest : List Oper} {o : Oper} {a : Act} {w : World} {Q : Exit → Act → World → Prop} {g : Nat} {x : Gv} (hb : Blk w g 57 x.cs) (hgd : o.guard = none) (y : Operand) (ho : o.op = .load 57 y)
    (hx : a.eval y = .pointer (some ⟨g, 0, none⟩)) (h : wpList Tryd.prog ops Q rest (a.put o.dst x.agg) w) : wpList Tryd.prog ops Q (o :: rest) a w := loadG12 hb hgd y ho hx h
theorem storeA12 {ops : Array Oper} {rest : List Oper} {o : Oper} {a : Act} {w : World} {Q : Exit → Act → World → Prop} {g : Nat} {x x' : Gv} (hb : Blk w g 57 x'.cs) (h1 : x.Ones) (hgd : o.guard = none) (y z : Operand) (ho : o.op = .store 57 y z) (hd : o.dst = none)
    (hx : a.eval y = .pointer (some ⟨g, 0, none⟩)) (hy : a.eval z = x.agg) (h : wpList Tryd.prog ops Q rest a (w.setRow g x.cs.toArray)) : wpList Tryd.prog ops Q (o :: rest) a w := storeG12 hb h1 hgd y z ho hd hx hy h
/-- A variable of its own for a value. -/
theorem box12 (W : World) (x : Gv) : Blk ((W.alloc (.cells Gv.zero.cs.toArray 57)).setRow W.heap.size x.cs.toArray) W.heap.size 57 x.cs ∧ Keeps W ((W.alloc (.cells Gv.zero.cs.toArray 57)).setRow W.heap.size x.cs.toArray) :=
  ⟨(Blk.new W _ Gv.zero.cs).setRow _, Chg.keeps (S := (· = W.heap.size)) (Chg.setRow _ rfl) (Keeps.alloc W _) (fun k hk e => by omega)⟩
theorem pG_any (G : GSt) (L : List K.C3) (a b : Nat) : pG (G.begS a) L = pG (G.begS b) L := by
  unfold pG GSt.begS
  by_cases h : G.sc.isSome = true ∨ (K.openC G.R.flatten = 0 ∧ G.want ≤ G.began)
  · rw [if_pos h, if_pos h]
  · rw [if_neg h, if_neg h]; rfl
section
variable {w W0 W W' : World} {g sp p rb cap n : Nat} {pp bb : Nat → Nat} {M : Nat} {G : GSt} {x x' : Gv} {l : List (Int × Bool)} {L : List K.C3}
theorem PJ12.mEnter (h : PJ12 w g sp p rb cap n pp bb M x x G l L W) (r : Int) (hl : l.length ≤ 100000) :
    Calls Tryd.prog 24 #[x.agg, .int .i64 r] W fun e W2 => ∃ x', e = .returned (.tuple #[x'.agg, .int .i64 (G.S.entE r)]) ∧ Mid12 w W g sp p rb cap n pp bb M x G l L x' (entD l r) (pG { G with S := G.S.ent r } L) W2 ∧ x'.wt = G.want := by
  have hq := r12Enter_any x l r W h.r.sl.ones h.r.u h.good hl
  rw [← h.hS] at hq
  refine hq.mono ?_
  rintro e W2 ⟨u', rfl, hD, hf, hk⟩
  have hr := h.r.keeps hk
  exact ⟨_, rfl, ⟨h.kept hk, ⟨hD, hr.lv, hr.runs, hr.sc, hr.v, hr.last, hr.bg, hr.ov, hr.vlt⟩, hf, .inl rfl, .inl rfl, h.xn, h.lo, hk⟩, h.wt⟩
theorem Mid12.gEnter {r : Int} (h : Mid12 w W0 g sp p rb cap n pp bb M x G l L x' (entD l r) (pG { G with S := G.S.ent r } L) W) (hwt : x'.wt = G.want) (sb : Nat) (hsb : sb = W.heap.size) (hst : G.S.st + 1 < 1000000) :
    Calls Tryd.prog 25 #[.pointer (some ⟨g, 0, none⟩), .slice (some ⟨sb, 0, none⟩) 1 1] (W.alloc (.cells #[.int .i64 r] 3)) fun e W' => e = .returned (.int .i64 (G.S.entE r)) ∧ PJ12 w g sp p rb cap n pp bb M x x' { G with S := G.S.ent r } (entD l r) L W' ∧ Chg (GF g sp p rb n pp bb G.sc) (W.alloc (.cells #[.int .i64 r] 3)) W' := by
  have hsl : sp < W.heap.size := h.old.gi.at'.sect.hdr.lt
  have hk := h.kept (Keeps.alloc W (.cells #[.int .i64 r] 3))
  have hg := genter_any hk.old.gi.at' (.slice (some ⟨sb, 0, none⟩) 1 1) [r] (ints_at W 3 [r] sb hsb (by simp [maxLen])) (fun b hb _ => by simp only [Value.ownBlock, Option.some.injEq] at hb; omega) hst
  rw [(ents_one12 G.S r).1, (ents_one12 G.S r).2] at hg
  refine hg.mono ?_
  rintro e w' ⟨rfl, hG, hC⟩
  exact ⟨rfl, hk.go hG (hC.mono fun k _ e => .inr (.inl e)) (fun b hb => .inl hb) hwt (entD_good h.old.good r) (by show G.S.ent r = _; rw [runD_ent, h.old.hS]) h.old.hR h.old.fit, hC.mono fun k _ e => .inr (.inl e)⟩
theorem PJ12.mExit (h : PJ12 w g sp p rb cap n pp bb M x x G l L W) (r : Int) (hl : l.length ≤ 100000) :
    Calls Tryd.prog 26 #[x.agg, .int .i64 r] W fun e W2 => ∃ x', e = .returned (.tuple #[x'.agg, .bool (G.S.exiB r), .int .i64 (G.S.exiE r)]) ∧ Mid12 w W g sp p rb cap n pp bb M x G l L x' (exiD l r) (pG { G with S := G.S.exi r } L) W2 ∧ x'.wt = G.want := by
  have hq := r12Exit_any x l r W h.r.sl.ones h.r.u h.good hl
  rw [← h.hS] at hq
  refine hq.mono ?_
  rintro e W2 ⟨u', rfl, hD, hf, hk⟩
  have hr := h.r.keeps hk
  exact ⟨_, rfl, ⟨h.kept hk, ⟨hD, hr.lv, hr.runs, hr.sc, hr.v, hr.last, hr.bg, hr.ov, hr.vlt⟩, hf, .inl rfl, .inl rfl, h.xn, h.lo, hk⟩, h.wt⟩
theorem Mid12.gExit {r : Int} (h : Mid12 w W0 g sp p rb cap n pp bb M x G l L x' (exiD l r) (pG { G with S := G.S.exi r } L) W) (hwt : x'.wt = G.want) :
    Calls Tryd.prog 18 #[.pointer (some ⟨g, 0, none⟩), .int .i64 r] W fun e W' => e = .returned (.tuple #[.bool (G.S.exiB r), .int .i64 (G.S.exiE r)]) ∧ PJ12 w g sp p rb cap n pp bb M x x' { G with S := G.S.exi r } (exiD l r) L W' ∧ Chg (GF g sp p rb n pp bb G.sc) W W' := by
  refine (gexit_any h.old.gi.at' r).mono ?_
  rintro e w' ⟨rfl, hG, hC⟩
  exact ⟨rfl, h.go hG (hC.mono fun k _ e => .inr (.inl e)) (fun b hb => .inl hb) hwt (exiD_good h.old.good r) (by show G.S.exi r = _; rw [runD_exi, h.old.hS]) h.old.hR h.old.fit, hC.mono fun k _ e => .inr (.inl e)⟩
theorem PJ12.mCall (h : PJ12 w g sp p rb cap n pp bb M x x G l L W) (c : Int) (iv : Value) (ids : List Int) (hi : Ints W iv ids) (hi1 : ids.length ≤ 1000) (hL : L.length ≤ 100000) :
    Calls Tryd.prog 27 #[x.agg, .int .i64 c, iv] W fun e W2 => ∃ x', e = .returned (.tuple #[x'.agg, .int .i64 (add12 n L c ids).2]) ∧ Mid12 w W g sp p rb cap n pp bb M x G l L x' l (pG { G with R := K.ringsL n (add12 n L c ids).1 } (add12 n L c ids).1) W2 ∧ x'.wt = G.want := by
  have hq := r12Call_any x L c iv ids W h.r.sl.ones h.r.lv hi hL hi1 h.fit.room
  rw [h.xn] at hq
  refine hq.mono ?_
  rintro e W2 ⟨u', rfl, hD, hf, hk⟩
  have hr := h.r.keeps hk
  exact ⟨_, rfl, ⟨h.kept hk, ⟨hr.u, hD, hr.runs, hr.sc, hr.v, hr.last, hr.bg, hr.ov, hr.vlt⟩, .inl rfl, hf, .inl rfl, rfl, h.lo, hk⟩, h.wt⟩
theorem Mid12.gCall {c : Int} {ids : List Int} (h : Mid12 w W0 g sp p rb cap n pp bb M x G l L x' l (pG { G with R := K.ringsL n (add12 n L c ids).1 } (add12 n L c ids).1) W) (hwt : x'.wt = G.want) (v : Value) (hv : Ints W v ids) (hsep : ∀ k, v.ownBlock = some k → 0 < ids.length → ¬ K.Foot p rb n pp bb k) :
    Calls Tryd.prog 11 #[.pointer (some ⟨g, 0, none⟩), .int .i64 c, v] W fun e W' => e = .returned (.int .i64 (add12 n L c ids).2) ∧ PJ12 w g sp p rb cap n pp bb M x x' { G with R := K.ringsL n (add12 n L c ids).1 } l (add12 n L c ids).1 W' ∧ Chg (GF g sp p rb n pp bb G.sc) W W' := by
  by_cases hc : c < 0 ∨ (n : Int) ≤ c
  · have e1 : add12 n L c ids = (L, 2) := if_pos hc
    rw [e1] at h ⊢
    refine (gcall_no h.old.gi.at' c hc v).mono ?_
    rintro e w' ⟨rfl, rfl⟩
    have eG : ({ G with R := K.ringsL n L } : GSt) = G := by rw [← h.old.hR]
    rw [eG] at h ⊢
    exact ⟨rfl, h.go h.old.gi.at' (Chg.refl _ _) (fun b hb => .inl hb) hwt h.old.good h.old.hS h.old.hR h.old.fit, Chg.refl _ _⟩
  · have e1 : add12 n L c ids = (K.add3 L c.toNat ids, if ids.length ≤ 64 - K.cnt3 L c.toNat then 0 else 3) := if_neg hc
    obtain ⟨k, rfl⟩ : ∃ k : Nat, c = k := ⟨c.toNat, by omega⟩
    rw [Int.toNat_natCast] at e1
    have hkn : k < n := by omega
    have hg := gcall_any h.old.gi.at' k hkn v ids hv hsep
    rw [h.old.hR, K.ringsL_add k hkn ids, K.ringsL_get n L k hkn, K.ringL_len] at hg
    rw [e1] at h ⊢
    refine hg.mono ?_
    rintro e w' ⟨rfl, hG, hC⟩
    exact ⟨rfl, h.go hG (hC.mono fun k _ e => .inr (.inr (.inl e))) (fun b hb => .inl hb) hwt h.old.good h.old.hS rfl (h.old.fit.add k hkn ids), hC.mono fun k _ e => .inr (.inr (.inl e))⟩
theorem PJ12.mTicket (h : PJ12 w g sp p rb cap n pp bb M x x G l L W) (h0 : 0 ≤ G.began) (h1 : G.began < 1000000000) :
    Calls Tryd.prog 28 #[x.agg] W fun e W2 => ∃ x', e = .returned (.tuple #[x'.agg, .int .i64 (G.began + 1)]) ∧ Mid12 w W g sp p rb cap n pp bb M x G l L x' l (pG { G with want := G.began + 1 } L) W2 ∧ x'.wt = G.began + 1 := by
  have hb : x.bg = G.began := h.r.bg
  have hq := r12Ticket_any x W h.r.sl (by rw [hb]; exact h0) (by rw [hb]; exact h1)
  rw [hb] at hq
  refine hq.mono ?_
  rintro e W2 ⟨rfl, hk⟩
  have hr := h.r.keeps hk
  exact ⟨_, rfl, ⟨h.kept hk, ⟨hr.u, hr.lv, hr.runs, hr.sc, hr.v, hr.last, rfl, hr.ov, hr.vlt⟩, .inl rfl, .inl rfl, .inl rfl, h.xn, h.lo, hk⟩, rfl⟩
theorem Mid12.gTicket (h : Mid12 w W0 g sp p rb cap n pp bb M x G l L x' l (pG { G with want := G.began + 1 } L) W) (hwt : x'.wt = G.began + 1) (h0 : 0 ≤ G.began) (h1 : G.began < 1000000000) :
    Calls Tryd.prog 12 #[.pointer (some ⟨g, 0, none⟩)] W fun e W' => e = .returned (.int .i64 (G.began + 1)) ∧ PJ12 w g sp p rb cap n pp bb M x x' { G with want := G.began + 1 } l L W' ∧ Chg (GF g sp p rb n pp bb G.sc) W W' := by
  refine (gticket_any h.old.gi.at' h0 h1).mono ?_
  rintro e w' ⟨rfl, hG, hC⟩
  exact ⟨rfl, h.go hG (hC.mono fun k _ e => .inl e) (fun b hb => .inl hb) hwt h.old.good h.old.hS h.old.hR h.old.fit, hC.mono fun k _ e => .inl e⟩
/-- The lists behind a poll. -/
def polD (G : GSt) (L : List K.C3) : List K.C3 := begD G.lookS.1 (lookD G L)
theorem PJ12.mPoll (h : PJ12 w g sp p rb cap n pp bb M x x G l L W) (h0 : 0 ≤ G.began) (h1 : G.began < 1000000000) (hl : G.last ≤ G.began) (hll : l.length ≤ 100000) (hL : L.length ≤ 100000) (hn : n ≤ 64) :
    Calls Tryd.prog 29 #[x.agg] W fun e W2 => ∃ x' o, e = .returned (.tuple #[x'.agg, o]) ∧ Mid12 w W g sp p rb cap n pp bb M x G l L x' l (pG (G.lookS.1.begS 0) (polD G L)) W2 ∧ x'.wt = G.want ∧ Ints W2 o G.lookS.2 ∧ FreshW W o := by
  have hq := r12Poll_any x l (pG G L) W h.r h.good hll hL (by rw [h.xn]; exact hn) h0 h1 hl
  obtain ⟨a1, a2, a3⟩ := lookS_R h.hR h.fit
  obtain ⟨b1, b2, b3, b4⟩ := lookS_same G
  rw [← h.hS, pG_look, pG_out, h.xn, ← a3, h.wt, ← b1, ← b4, pG_beg G.lookS.1 (lookD G L) 0 (by rw [a1, K.openC_ringsL a2])] at hq
  refine hq.mono ?_
  rintro e W2 ⟨x', o, rfl, hr, ho, e1, e2, e3, e4, e5, e6, hk⟩
  exact ⟨x', o, rfl, ⟨h.kept hk, hr, .inl e3, e4, e5, e1, h.lo, hk⟩, e2.trans b4, ho, e6⟩
theorem Mid12.gPoll (h : Mid12 w W0 g sp p rb cap n pp bb M x G l L x' l (pG (G.lookS.1.begS 0) (polD G L)) W) (hwt : x'.wt = G.want) (hT : TabAt w) (h0 : 0 ≤ G.began) (h1 : G.began < 1000000000) (hl : G.last ≤ G.began) (hn : n ≤ 64) :
    Calls Tryd.prog 14 #[.pointer (some ⟨g, 0, none⟩)] W fun e W' => ∃ v y, e = .returned v ∧ Ints W' v G.lookS.2 ∧ PJ12 w g sp p rb cap n pp bb M x x' (G.lookS.1.begS y) l (polD G L) W' ∧ Chg (GF g sp p rb n pp bb G.sc) W W' := by
  obtain ⟨a1, a2, a3⟩ := lookS_R h.old.hR h.old.fit
  obtain ⟨b1, b2, b3, b4⟩ := lookS_same G
  have hlen : G.lookS.2.length ≤ 100000 := by
    have := lookO_len (G := G) (n := n) (L := L) h.old.fit
    rw [a3]; omega
  refine (gpoll_any h.old.gi.at' (hT.keeps h.old.gi.keeps) h0 h1 hl hlen).mono ?_
  rintro e w' ⟨v, y, rfl, hv, hG, hx, hC⟩
  obtain ⟨c1, c2, c3, c4, c5, c6, c7, c8⟩ := begS_R a1 a2 (by rw [b3]; exact h0) (by rw [b2, b3]; exact hl) y
  refine ⟨v, y, rfl, slc_of_row hv, ?_, hC⟩
  rw [pG_any G.lookS.1 _ 0 y] at h
  refine h.go hG hC (fun b hb => ?_) (by rw [c7, b4]; exact hwt) h.old.good (by rw [c3, b1]; exact h.old.hS) c1 c2
  rcases hb with hb | hb | hb | hb
  · exact .inl (.inl hb)
  · exact .inl (.inr (.inl hb))
  · exact .inl (.inr (.inr (.inl hb)))
  · rcases sc_poll G y hb with hb | rfl
    · exact .inl (.inr (.inr (.inr hb)))
    · exact .inr hx
theorem PJ12.hold (h : PJ12 w g sp p rb cap n pp bb M x x G l L W) : G.left < 18446744073709551616 ∧ (x.runs = true → Bools W x.v G.left) ∧ (if x.runs = true then G.left else 0) = G.left := by
  have hr : x.runs = (G.sc.map Prod.snd).isSome := h.r.runs
  have hc := h.r.sc
  unfold GSt.left
  cases hs : G.sc with
  | none =>
    rw [hs] at hr
    refine ⟨by decide, fun e => ?_, ?_⟩
    · rw [hr] at e; cases e
    · split <;> rfl
  | some y =>
    rw [hs] at hr
    obtain ⟨_, _, hok, hb⟩ := hc y.2 (by show Option.map Prod.snd G.sc = _; rw [hs]; rfl)
    exact ⟨hok.word, fun _ => hb, by rw [hr]; rfl⟩
theorem PJ12.bar (h : PJ12 w g sp p rb cap n pp bb M x x G l L W) : G.bar = if 0 < K.open3 L then x.bg + 1 else K.most3 L := by
  have hb : x.bg = G.began := h.r.bg
  unfold GSt.bar
  rw [h.hR, K.openC_ringsL h.fit, K.newC_ringsL h.fit, hb]
end
end Go.Proofs.YtefippjakkgjkaaDoor

/- GracePlays: the walk. -/
namespace Go.Proofs.YtefippjakkgjkaaDoor
open Go.RowKit

theorem quietA12 {ops : Array Oper} {C : World → Prop} {Q : Act → Prop} {a : Act} {o : Oper} {rest : List Oper} {g : Nat} {x : Gv} (hb : ∀ w', C w' → Blk w' g 57 x.cs) (hw : Region.wanted o (yielded ops a.tmps) = true) (y : Operand) (ho : o.op = .load 57 y)
    (hx : a.eval y = .pointer (some ⟨g, 0, none⟩)) (h : wpQuiet Tryd.prog ops C Q rest (a.put o.dst x.agg)) : wpQuiet Tryd.prog ops C Q (o :: rest) a :=
  quietRow hb hw 57 y ho hx _ Tryd.underlying57 rfl 11 size12 rfl h
/-- An act: kind, reader, CPU, id. -/
abbrev Act12p : Type := Int × Int × Int × Int
def aEl12p (a : Act12p) : List Value := [.int .i64 a.1, .int .i64 a.2.1, .int .i64 a.2.2.1, .int .i64 a.2.2.2]
/-- Bounds of what has been done. -/
structure Bd12 (k : Nat) (G : GSt) (l : List (Int × Bool)) : Prop where
  l : l.length ≤ k
  st : G.S.st ≤ k
  b0 : 0 ≤ G.began
  b1 : G.began ≤ k
  la : G.last ≤ G.began
theorem Bd12.up {k : Nat} {G G' : GSt} {l l' : List (Int × Bool)} (h : Bd12 k G l) (h1 : l'.length ≤ l.length + 1) (h2 : G'.S.st ≤ G.S.st + 1) (h3 : G'.began = G.began) (h4 : G'.last = G.last) : Bd12 (k + 1) G' l' := by
  have e1 := h.l
  have e2 := h.st
  have e3 := h.b0
  have e4 := h.b1
  have e5 := h.la
  exact ⟨by omega, by omega, by omega, by omega, by omega⟩
theorem Bd12.poll {k n : Nat} {G : GSt} {l : List (Int × Bool)} {L : List K.C3} (h : Bd12 k G l) (hR : G.R = K.ringsL n L) (fit : K.Fit n G.last L) (y : Nat) : Bd12 (k + 1) (G.lookS.1.begS y) l := by
  have e1 := h.l
  have e2 := h.st
  have e3 := h.b0
  have e4 := h.b1
  have e5 := h.la
  obtain ⟨a1, a2, _⟩ := lookS_R hR fit
  obtain ⟨b1, b2, b3, _⟩ := lookS_same G
  obtain ⟨_, _, c3, c4, c5, c6, _⟩ := begS_R a1 a2 (by rw [b3]; exact e3) (by rw [b2, b3]; exact e5) y
  exact ⟨by omega, by rw [c3, b1]; omega, by omega, by omega, c4⟩
theorem x0_start {w w1 : World} {g sp p rb cap n : Nat} {pp bb : Nat → Nat} (hG : GI w g sp p rb cap n pp bb (.new n) w1) (M : Nat) (hM : M = w1.heap.size) :
    PJ12 w g sp p rb cap n pp bb M { Gv.zero with n := n } { Gv.zero with n := n } (.new n) [] [] ((w1.alloc (.cells Gv.zero.cs.toArray 57)).setRow M ({ Gv.zero with n := n } : Gv).cs.toArray) := by
  obtain ⟨h1, h2⟩ := box12 w1 { Gv.zero with n := n }
  rw [← hM] at h1 h2
  have hr0 : List.replicate n ([] : List K.Cl) = K.ringsL n [] := by
    apply List.ext_getElem
    · simp [K.ringsL]
    · intro i h1 h2; simp [K.ringsL, K.ringL]
  refine ⟨hG.kept h2, h1, ⟨SlcS.nil _ _, SlcS.nil _ _, rfl, fun c hc => (nomatch hc), ⟨_, _, _, rfl⟩, rfl, rfl, rfl, fun c hc => by simp [Gv.zero, Value.ownBlock] at hc⟩, rfl, rfl, Good.nil, rfl, hr0, K.Fit.nil n, by rw [hM]; exact hG.keeps.size, fun hF => by have := hG.at'.lt M hF; omega, fun c hc => by simp [Gv.zero, Value.ownBlock] at hc, fun c hc => by simp [Gv.zero, Value.ownBlock] at hc, fun c hc => by simp [Gv.zero, Value.ownBlock] at hc⟩
set_option maxRecDepth 100000 in
set_option maxHeartbeats 4000000 in
theorem lawPlays12_any (n0 : Int) (v : Value) (acts : List Act12p) (tk : Int) (w : World) (hT : TabAt w) (hv : SlcS 4 w v (acts.map aEl12p)) :
    Calls Tryd.prog 6 #[.int .i64 n0, v, .int .i64 tk] w fun e w' => e = .returned (.bool true) ∧ Keeps w w' := by
  obtain ⟨n5, hn5, en⟩ := wrap_mod n0 4 (by decide)
  have hkn := fun (W : World) (h : Keeps w W) => known12_any W (hT.keeps h)
  obtain ⟨n, hn⟩ : ∃ n : Nat, n = 1 + n5 := ⟨_, rfl⟩
  have hn1 : 1 ≤ n := by omega
  have hn4 : n ≤ 4 := by omega
  have hnI : 1 + (n5 : Int) = (n : Int) := by omega
  have hst := GI.start (n := n) hn1 (by omega) w
  have hnew := fun (W : World) => r12New_any n W
  rw [← hnI] at hst hnew
  obtain ⟨q, cap0, rfl, hl, hc, _⟩ := SlcS.get hv
  rw [List.length_map] at hl ⊢
  have haI : (0 : Int) ≤ (acts.length : Int) := by omega
  replace hkn := Lib.hid hkn
  replace hst := Lib.hid hst
  replace hnew := Lib.hid hnew
  replace hv := Lib.hid hv
  replace hT := Lib.hid hT
  replace hn := Lib.hid hn
  replace hnI := Lib.hid hnI
  go_enter Tryd.func6, Tryd.ntmps6
  go_wp2_with fail
  refine hst.out.mono ?_
  rintro e w1 ⟨g, sp, p, rb, cap, pp, bb, rfl, hG⟩
  replace hG := Lib.hid hG
  clear hst
  go_wp2_with fail
  with_reducible refine (hnew.out _).mono ?_
  rintro e w2 ⟨rfl, hk2⟩
  have hG2 := hG.out.kept hk2
  obtain ⟨M, hM⟩ : ∃ M, M = w2.heap.size := ⟨_, rfl⟩
  have hP := x0_start hG2 M hM
  have hb0 := Blk.new w2 57 Gv.zero.cs
  have ho0 : ({ Gv.zero with n := n } : Gv).Ones := ⟨rfl, rfl, rfl⟩
  generalize ({ Gv.zero with n := n } : Gv) = x0 at *
  rw [← hM] at hb0
  replace hP := Lib.hid hP
  replace hM := Lib.hid hM
  replace hb0 := Lib.hid hb0
  replace ho0 := Lib.hid ho0
  clear hG hG2 hk2 hnew
  go_upto_region 6 with (first | (rw [← hM.out]; refine storeA12 hb0.out ho0.out rfl _ _ rfl rfl rfl rfl ?_))
  rw [hnI.out]
  refine wp_gen (fun W => PJ12 w g sp p rb cap n pp bb M x0 x0 (.new n) [] [] W) hP.out ?_
  clear hP hM hb0 ho0
  rintro W hP
  replace hP := Lib.hid hP
  go_wp2_with fail
  go_loopw [10] (fun i wr => ∃ (k : Nat) (x : Gv) (G : GSt) (l : List (Int × Bool)) (L : List K.C3), k ≤ acts.length ∧ k ≤ 50 ∧ i = .int .i64 (k : Int) ∧ Bd12 k G l ∧ PJ12 w g sp p rb cap n pp bb M x x G l L wr) (fun i _ => acts.length - (intOf i).toNat)
  case atStart => exact ⟨0, _, _, _, _, by omega, by omega, rfl, ⟨Nat.le_refl _, Nat.le_refl _, Int.le_refl _, Int.le_refl _, Int.le_refl _⟩, hP.out⟩
  case round =>
    clear hP
    obtain ⟨k, x, G, l, L, hk, hk50, rfl, hB, hP⟩ := hrel
    obtain ⟨wo, hwo⟩ : ∃ wo : World, wo = wr := ⟨_, rfl⟩
    rw [← hwo] at hP ⊢
    clear hwo
    have hk0 : (0 : Int) ≤ (k : Int) := by omega
    by_cases hgo : k < acts.length ∧ k < 50
    · obtain ⟨hlt, h50⟩ := hgo
      have hltI := Int.ofNat_lt.2 hlt
      have h50I : (k : Int) < 50 := by omega
      obtain ⟨q', c', hv', _, _, hcell⟩ := SlcS.get (SlcS.below hv.out hP.gi.keeps)
      obtain ⟨cb, aoff, hq', hcell⟩ := hcell k (by rw [List.length_map]; exact hlt)
      simp only [Value.slice.injEq] at hv'
      obtain rfl : q = some ⟨cb, aoff, none⟩ := hv'.1.trans hq'
      have e0 : (acts.map aEl12p).getD k [] = aEl12p acts[k] := by simp [List.getD, hlt]
      rw [e0] at hcell
      have y0 := hcell 0 (by decide)
      have y1 := hcell 1 (by decide)
      have y2 := hcell 2 (by decide)
      have y3 := hcell 3 (by decide)
      clear hcell hv' hq' e0
      generalize acts[k] = a at *
      obtain ⟨ki, rd, cp, id⟩ := a
      simp only [aEl12p, List.getD_cons_zero, List.getD_cons_succ, Nat.add_zero] at y0 y1 y2 y3
      obtain ⟨A, hA⟩ : ∃ A, A = wo.heap.size := ⟨_, rfl⟩
      have hBA := Blk.new wo 33 [.int .i64 ki, .int .i64 rd, .int .i64 cp, .int .i64 id]
      rw [← hA] at hBA
      have hP2 := hP.kept (Keeps.alloc wo (.cells [.int .i64 ki, .int .i64 rd, .int .i64 cp, .int .i64 id].toArray 33))
      have hAn : w.heap.size ≤ A := by rw [hA]; exact hP.gi.keeps.size
      have hAf : ∀ b, b = M ∨ GF g sp p rb n pp bb G.sc b → b ≠ A := fun b hb => by have := hP.lo b hb; omega
      replace hA := Lib.hid hA
      replace hBA := Lib.hid hBA
      replace hP2 := Lib.hid hP2
      replace hB := Lib.hid hB
      replace hAf := Lib.hid hAf
      clear hP
      obtain ⟨kd, hkd, ek⟩ := wrap_mod ki 6 (by decide)
      go_upto_region 10 with (fail)
      rw [← hA.out]
      refine wp_gen (fun W => PJ12 w g sp p rb cap n pp bb M x x G l L W ∧ Blk W A 33 [.int .i64 ki, .int .i64 rd, .int .i64 cp, .int .i64 id]) ⟨hP2.out, hBA.out⟩ ?_
      clear hP2 hBA hA y0 y1 y2 y3
      rintro W ⟨hP, hBA⟩
      have a0 := hBA.cell 0 (by simp)
      have a1 := hBA.cell 1 (by simp)
      have a2 := hBA.cell 2 (by simp)
      have a3 := hBA.cell 3 (by simp)
      simp only [List.getElem_cons_zero, List.getElem_cons_succ] at a0 a1 a2 a3
      replace hP := Lib.hid hP
      replace hBA := Lib.hid hBA
      go_upto_block 2 with fail
      go_cut [] (fun wx => ∃ (x2 : Gv) (G2 : GSt) (l2 : List (Int × Bool)) (L2 : List K.C3), Bd12 (k + 1) G2 l2 ∧ PJ12 w g sp p rb cap n pp bb M x2 x2 G2 l2 L2 wx ∧ Blk wx A 33 [.int .i64 ki, .int .i64 rd, .int .i64 cp, .int .i64 id])
      case first =>
        have hkd6 : kd = 0 ∨ kd = 1 ∨ kd = 2 ∨ kd = 3 ∨ kd = 4 ∨ kd = 5 := by omega
        rcases hkd6 with rfl | rfl | rfl | rfl | rfl | rfl
        · as_aux_lemma =>
          have hq := hP.out.mEnter rd (by have := hB.out.l; omega)
          replace hq := Lib.hid hq
          go_wp2_with (refine loadA12 hP.out.bm rfl _ rfl rfl ?_)
          with_reducible refine hq.out.mono ?_
          rintro e W2 ⟨x', rfl, hMd, hwt⟩
          have hb0 := Blk.new W2 57 Gv.zero.cs
          have ho0 := hMd.r.sl.ones
          have hMd2 := hMd.kept (box12 W2 x').2
          have hBC := (box12 W2 x').1
          have hBA2 := (hBA.out.keeps hMd.k).keeps (box12 W2 x').2
          obtain ⟨C, hC⟩ : ∃ C, C = W2.heap.size := ⟨_, rfl⟩
          have hCf : ∀ b, b = M ∨ GF g sp p rb n pp bb G.sc b → b ≠ C := fun b hb => by have := hMd.lo b hb; have := hMd.k.size; omega
          rw [← hC] at hMd2 hBC hb0 hBA2
          replace hC := Lib.hid hC
          replace hb0 := Lib.hid hb0
          replace ho0 := Lib.hid ho0
          replace hMd2 := Lib.hid hMd2
          replace hBC := Lib.hid hBC
          replace hBA2 := Lib.hid hBA2
          replace hCf := Lib.hid hCf
          clear hMd hq
          go_upto_region 17 with (first | (rw [← hC.out]; refine storeA12 hb0.out ho0.out rfl _ _ rfl rfl rfl rfl ?_))
          refine wp_gen (fun W3 => Mid12 w W g sp p rb cap n pp bb M x G l L x' (entD l rd) (pG { G with S := G.S.ent rd } L) W3 ∧ Blk W3 C 57 x'.cs ∧ Blk W3 A 33 [.int .i64 ki, .int .i64 rd, .int .i64 cp, .int .i64 id]) ⟨hMd2.out, hBC.out, hBA2.out⟩ ?_
          clear hMd2 hBC hBA2 hC hb0 ho0 a0 a1 a2 a3
          rintro W3 ⟨hMd, hBC, hBA3⟩
          have a1 := hBA3.cell 1 (by simp)
          simp only [List.getElem_cons_zero, List.getElem_cons_succ] at a1
          have hgc := hMd.gEnter hwt W3.heap.size rfl (by have := hB.out.st; omega)
          replace hMd := Lib.hid hMd
          replace hBC := Lib.hid hBC
          replace hBA3 := Lib.hid hBA3
          replace hgc := Lib.hid hgc
          go_wp2_with fail
          with_reducible refine hgc.out.mono ?_
          rintro e W4 ⟨rfl, hPJ, hC4⟩
          have hBC4 := (hBC.out.keeps (Keeps.alloc W3 (.cells #[.int .i64 rd] 3))).chg hC4 (fun h => hCf.out C (.inr h) rfl)
          have hBA4 := (hBA3.out.keeps (Keeps.alloc W3 (.cells #[.int .i64 rd] 3))).chg hC4 (fun h => hAf.out A (.inr h) rfl)
          have hAM : A ≠ M := fun e => hAf.out M (.inl rfl) e.symm
          have hNX := hPJ.store
          have hBA5 := hBA4.otherRow hAM x'.cs.toArray
          have hon := hPJ.r.sl.ones
          have hbm := hPJ.bm
          have hbd := hB.out.up (G' := { G with S := G.S.ent rd }) (entD_len l rd) (SSt.ent_st G.S rd) rfl rfl
          replace hBC4 := Lib.hid hBC4
          replace hNX := Lib.hid hNX
          replace hBA5 := Lib.hid hBA5
          replace hon := Lib.hid hon
          replace hbm := Lib.hid hbm
          replace hbd := Lib.hid hbd
          clear hBA4 hPJ hMd hBC hBA3 hgc hC4
          go_wp2_with (first | (refine loadA12 hBC4.out rfl _ rfl rfl ?_) | (refine storeA12 hbm.out hon.out rfl _ _ rfl rfl rfl rfl ?_))
          go_meet
          exact ⟨x', _, _, _, hbd.out, hNX.out, hBA5.out⟩
        · as_aux_lemma =>
          have hq := hP.out.mExit rd (by have := hB.out.l; omega)
          replace hq := Lib.hid hq
          go_wp2_with (refine loadA12 hP.out.bm rfl _ rfl rfl ?_)
          with_reducible refine hq.out.mono ?_
          rintro e W2 ⟨x', rfl, hMd, hwt⟩
          have hb0 := Blk.new W2 57 Gv.zero.cs
          have ho0 := hMd.r.sl.ones
          have hMd2 := hMd.kept (box12 W2 x').2
          have hBC := (box12 W2 x').1
          have hBA2 := (hBA.out.keeps hMd.k).keeps (box12 W2 x').2
          obtain ⟨C, hC⟩ : ∃ C, C = W2.heap.size := ⟨_, rfl⟩
          have hCf : ∀ b, b = M ∨ GF g sp p rb n pp bb G.sc b → b ≠ C := fun b hb => by have := hMd.lo b hb; have := hMd.k.size; omega
          rw [← hC] at hMd2 hBC hb0 hBA2
          replace hC := Lib.hid hC
          replace hb0 := Lib.hid hb0
          replace ho0 := Lib.hid ho0
          replace hMd2 := Lib.hid hMd2
          replace hBC := Lib.hid hBC
          replace hBA2 := Lib.hid hBA2
          replace hCf := Lib.hid hCf
          clear hMd hq
          go_upto_region 22 with (first | (rw [← hC.out]; refine storeA12 hb0.out ho0.out rfl _ _ rfl rfl rfl rfl ?_))
          refine wp_gen (fun W3 => Mid12 w W g sp p rb cap n pp bb M x G l L x' (exiD l rd) (pG { G with S := G.S.exi rd } L) W3 ∧ Blk W3 C 57 x'.cs ∧ Blk W3 A 33 [.int .i64 ki, .int .i64 rd, .int .i64 cp, .int .i64 id]) ⟨hMd2.out, hBC.out, hBA2.out⟩ ?_
          clear hMd2 hBC hBA2 hC hb0 ho0 a0 a1 a2 a3
          rintro W3 ⟨hMd, hBC, hBA3⟩
          have a1 := hBA3.cell 1 (by simp)
          simp only [List.getElem_cons_zero, List.getElem_cons_succ] at a1
          have hgc := hMd.gExit hwt
          replace hMd := Lib.hid hMd
          replace hBC := Lib.hid hBC
          replace hBA3 := Lib.hid hBA3
          replace hgc := Lib.hid hgc
          go_wp2_with fail
          with_reducible refine hgc.out.mono ?_
          rintro e W4 ⟨rfl, hPJ, hC4⟩
          have hBC4 := (hBC.out).chg hC4 (fun h => hCf.out C (.inr h) rfl)
          have hBA4 := (hBA3.out).chg hC4 (fun h => hAf.out A (.inr h) rfl)
          have hAM : A ≠ M := fun e => hAf.out M (.inl rfl) e.symm
          have hNX := hPJ.store
          have hBA5 := hBA4.otherRow hAM x'.cs.toArray
          have hon := hPJ.r.sl.ones
          have hbm := hPJ.bm
          have hbd := hB.out.up (G' := { G with S := G.S.exi rd }) (exiD_len l rd) (by show (G.S.exi rd).st ≤ _; rw [SSt.exi_st]; omega) rfl rfl
          replace hBC4 := Lib.hid hBC4
          replace hNX := Lib.hid hNX
          replace hBA5 := Lib.hid hBA5
          replace hon := Lib.hid hon
          replace hbm := Lib.hid hbm
          replace hbd := Lib.hid hbd
          clear hBA4 hPJ hMd hBC hBA3 hgc hC4
          go_wp2_with (first | (refine loadA12 hBC4.out rfl _ rfl rfl ?_) | (refine storeA12 hbm.out hon.out rfl _ _ rfl rfl rfl rfl ?_))
          go_meet
          exact ⟨x', _, _, _, hbd.out, hNX.out, hBA5.out⟩
        · as_aux_lemma =>
          have hP2 := hP.out.kept (Keeps.alloc W (.cells #[.int .i64 id, .int .i64 rd] 3))
          have hq := hP2.mCall cp (.slice (some ⟨W.heap.size, 0, none⟩) 2 2) [id, rd] (ints_at W 3 [id, rd] W.heap.size rfl (by simp [maxLen])) (by simp) (by have := hP.out.fit.len; omega)
          replace hq := Lib.hid hq
          go_wp2_with (refine loadA12 hP.out.bm rfl _ rfl rfl ?_)
          with_reducible refine hq.out.mono ?_
          rintro e W2 ⟨x', rfl, hMd, hwt⟩
          have hb0 := Blk.new W2 57 Gv.zero.cs
          have ho0 := hMd.r.sl.ones
          have hMd2 := hMd.kept (box12 W2 x').2
          have hBC := (box12 W2 x').1
          have hBA2 := ((hBA.out.keeps (Keeps.alloc W (.cells #[.int .i64 id, .int .i64 rd] 3))).keeps hMd.k).keeps (box12 W2 x').2
          obtain ⟨C, hC⟩ : ∃ C, C = W2.heap.size := ⟨_, rfl⟩
          have hCf : ∀ b, b = M ∨ GF g sp p rb n pp bb G.sc b → b ≠ C := fun b hb => by have := hMd.lo b hb; have := hMd.k.size; omega
          rw [← hC] at hMd2 hBC hb0 hBA2
          replace hC := Lib.hid hC
          replace hb0 := Lib.hid hb0
          replace ho0 := Lib.hid ho0
          replace hMd2 := Lib.hid hMd2
          replace hBC := Lib.hid hBC
          replace hBA2 := Lib.hid hBA2
          replace hCf := Lib.hid hCf
          clear hMd hq
          go_upto_region 28 with (first | (rw [← hC.out]; refine storeA12 hb0.out ho0.out rfl _ _ rfl rfl rfl rfl ?_))
          refine wp_gen (fun W3 => Mid12 w (W.alloc (.cells #[.int .i64 id, .int .i64 rd] 3)) g sp p rb cap n pp bb M x G l L x' l (pG { G with R := K.ringsL n (add12 n L cp [id, rd]).1 } (add12 n L cp [id, rd]).1) W3 ∧ Blk W3 C 57 x'.cs ∧ Blk W3 A 33 [.int .i64 ki, .int .i64 rd, .int .i64 cp, .int .i64 id]) ⟨hMd2.out, hBC.out, hBA2.out⟩ ?_
          clear hMd2 hBC hBA2 hC hb0 ho0 a0 a1 a2 a3
          rintro W3 ⟨hMd, hBC, hBA3⟩
          have a1 := hBA3.cell 1 (by simp)
          have a2 := hBA3.cell 2 (by simp)
          have a3 := hBA3.cell 3 (by simp)
          simp only [List.getElem_cons_zero, List.getElem_cons_succ] at a1 a2 a3
          have hgc := (hMd.kept (Keeps.alloc W3 (.cells #[.int .i64 id, .int .i64 rd] 3))).gCall hwt (.slice (some ⟨W3.heap.size, 0, none⟩) 2 2) (ints_at W3 3 [id, rd] W3.heap.size rfl (by simp [maxLen])) (fun b hb _ hF => by have := hMd.old.gi.at'.calls.foot_lt b hF; simp only [Value.ownBlock, Option.some.injEq] at hb; omega)
          replace hMd := Lib.hid hMd
          replace hBC := Lib.hid hBC
          replace hBA3 := Lib.hid hBA3
          replace hgc := Lib.hid hgc
          go_wp2_with fail
          with_reducible refine hgc.out.mono ?_
          rintro e W4 ⟨rfl, hPJ, hC4⟩
          have hBC4 := (hBC.out.keeps (Keeps.alloc W3 (.cells #[.int .i64 id, .int .i64 rd] 3))).chg hC4 (fun h => hCf.out C (.inr h) rfl)
          have hBA4 := (hBA3.out.keeps (Keeps.alloc W3 (.cells #[.int .i64 id, .int .i64 rd] 3))).chg hC4 (fun h => hAf.out A (.inr h) rfl)
          have hAM : A ≠ M := fun e => hAf.out M (.inl rfl) e.symm
          have hNX := hPJ.store
          have hBA5 := hBA4.otherRow hAM x'.cs.toArray
          have hon := hPJ.r.sl.ones
          have hbm := hPJ.bm
          have hbd := hB.out.up (G' := { G with R := K.ringsL n (add12 n L cp [id, rd]).1 }) (l' := l) (Nat.le_succ _) (Nat.le_succ _) rfl rfl
          replace hBC4 := Lib.hid hBC4
          replace hNX := Lib.hid hNX
          replace hBA5 := Lib.hid hBA5
          replace hon := Lib.hid hon
          replace hbm := Lib.hid hbm
          replace hbd := Lib.hid hbd
          clear hBA4 hPJ hMd hBC hBA3 hgc hC4
          go_wp2_with (first | (refine loadA12 hBC4.out rfl _ rfl rfl ?_) | (refine storeA12 hbm.out hon.out rfl _ _ rfl rfl rfl rfl ?_))
          go_meet
          exact ⟨x', _, _, _, hbd.out, hNX.out, hBA5.out⟩
        · as_aux_lemma =>
          have hq := hP.out.mTicket hB.out.b0 (by have := hB.out.b1; omega)
          replace hq := Lib.hid hq
          go_wp2_with (refine loadA12 hP.out.bm rfl _ rfl rfl ?_)
          with_reducible refine hq.out.mono ?_
          rintro e W2 ⟨x', rfl, hMd, hwt⟩
          have hb0 := Blk.new W2 57 Gv.zero.cs
          have ho0 := hMd.r.sl.ones
          have hMd2 := hMd.kept (box12 W2 x').2
          have hBC := (box12 W2 x').1
          have hBA2 := (hBA.out.keeps hMd.k).keeps (box12 W2 x').2
          obtain ⟨C, hC⟩ : ∃ C, C = W2.heap.size := ⟨_, rfl⟩
          have hCf : ∀ b, b = M ∨ GF g sp p rb n pp bb G.sc b → b ≠ C := fun b hb => by have := hMd.lo b hb; have := hMd.k.size; omega
          rw [← hC] at hMd2 hBC hb0 hBA2
          replace hC := Lib.hid hC
          replace hb0 := Lib.hid hb0
          replace ho0 := Lib.hid ho0
          replace hMd2 := Lib.hid hMd2
          replace hBC := Lib.hid hBC
          replace hBA2 := Lib.hid hBA2
          replace hCf := Lib.hid hCf
          clear hMd hq
          go_upto_region 33 with (first | (rw [← hC.out]; refine storeA12 hb0.out ho0.out rfl _ _ rfl rfl rfl rfl ?_))
          refine wp_gen (fun W3 => Mid12 w W g sp p rb cap n pp bb M x G l L x' l (pG { G with want := G.began + 1 } L) W3 ∧ Blk W3 C 57 x'.cs ∧ Blk W3 A 33 [.int .i64 ki, .int .i64 rd, .int .i64 cp, .int .i64 id]) ⟨hMd2.out, hBC.out, hBA2.out⟩ ?_
          clear hMd2 hBC hBA2 hC hb0 ho0 a0 a1 a2 a3
          rintro W3 ⟨hMd, hBC, hBA3⟩
          have hgc := hMd.gTicket hwt hB.out.b0 (by have := hB.out.b1; omega)
          replace hMd := Lib.hid hMd
          replace hBC := Lib.hid hBC
          replace hBA3 := Lib.hid hBA3
          replace hgc := Lib.hid hgc
          go_wp2_with fail
          with_reducible refine hgc.out.mono ?_
          rintro e W4 ⟨rfl, hPJ, hC4⟩
          have hBC4 := (hBC.out).chg hC4 (fun h => hCf.out C (.inr h) rfl)
          have hBA4 := (hBA3.out).chg hC4 (fun h => hAf.out A (.inr h) rfl)
          have hAM : A ≠ M := fun e => hAf.out M (.inl rfl) e.symm
          have hNX := hPJ.store
          have hBA5 := hBA4.otherRow hAM x'.cs.toArray
          have hon := hPJ.r.sl.ones
          have hbm := hPJ.bm
          have hbd := hB.out.up (G' := { G with want := G.began + 1 }) (l' := l) (Nat.le_succ _) (Nat.le_succ _) rfl rfl
          replace hBC4 := Lib.hid hBC4
          replace hNX := Lib.hid hNX
          replace hBA5 := Lib.hid hBA5
          replace hon := Lib.hid hon
          replace hbm := Lib.hid hbm
          replace hbd := Lib.hid hbd
          clear hBA4 hPJ hMd hBC hBA3 hgc hC4
          go_wp2_with (first | (refine loadA12 hBC4.out rfl _ rfl rfl ?_) | (refine storeA12 hbm.out hon.out rfl _ _ rfl rfl rfl rfl ?_))
          go_meet
          exact ⟨x', _, _, _, hbd.out, hNX.out, hBA5.out⟩
        · as_aux_lemma =>
          have hq := hP.out.mPoll hB.out.b0 (by have := hB.out.b1; omega) hB.out.la (by have := hB.out.l; omega) (by have := hP.out.fit.len; omega) (by omega)
          replace hq := Lib.hid hq
          go_wp2_with (refine loadA12 hP.out.bm rfl _ rfl rfl ?_)
          with_reducible refine hq.out.mono ?_
          rintro e W2 ⟨x', o, rfl, hMd, hwt, ho, hfo⟩
          have hb0 := Blk.new W2 57 Gv.zero.cs
          have ho0 := hMd.r.sl.ones
          have hMd2 := hMd.kept (box12 W2 x').2
          have hBC := (box12 W2 x').1
          have hBA2 := (hBA.out.keeps hMd.k).keeps (box12 W2 x').2
          have ho2 : Ints _ o G.lookS.2 := Slc.below ho (box12 W2 x').2
          obtain ⟨C, hC⟩ : ∃ C, C = W2.heap.size := ⟨_, rfl⟩
          have hCf : ∀ b, b = M ∨ GF g sp p rb n pp bb G.sc b → b ≠ C := fun b hb => by have := hMd.lo b hb; have := hMd.k.size; omega
          have hof : ∀ b, o.ownBlock = some b → ¬ GF g sp p rb n pp bb G.sc b := fun b hb hF => by have := hfo b hb; have := hMd.lo b (.inr hF); omega
          rw [← hC] at hMd2 hBC hb0 hBA2 ho2
          replace hC := Lib.hid hC
          replace hb0 := Lib.hid hb0
          replace ho0 := Lib.hid ho0
          replace hMd2 := Lib.hid hMd2
          replace hBC := Lib.hid hBC
          replace hBA2 := Lib.hid hBA2
          replace hCf := Lib.hid hCf
          replace ho2 := Lib.hid ho2
          replace hof := Lib.hid hof
          clear hMd hq ho hfo
          go_upto_region 12 with (first | (rw [← hC.out]; refine storeA12 hb0.out ho0.out rfl _ _ rfl rfl rfl rfl ?_))
          refine wp_gen (fun W3 => Mid12 w W g sp p rb cap n pp bb M x G l L x' l (pG (G.lookS.1.begS 0) (polD G L)) W3 ∧ Blk W3 C 57 x'.cs ∧ Blk W3 A 33 [.int .i64 ki, .int .i64 rd, .int .i64 cp, .int .i64 id] ∧ Ints W3 o G.lookS.2) ⟨hMd2.out, hBC.out, hBA2.out, ho2.out⟩ ?_
          clear hMd2 hBC hBA2 hC hb0 ho0 a0 a1 a2 a3 ho2
          rintro W3 ⟨hMd, hBC, hBA3, ho3⟩
          have hgc := hMd.gPoll hwt hT.out hB.out.b0 (by have := hB.out.b1; omega) hB.out.la (by omega)
          replace hMd := Lib.hid hMd
          replace hBC := Lib.hid hBC
          replace hBA3 := Lib.hid hBA3
          replace hgc := Lib.hid hgc
          replace ho3 := Lib.hid ho3
          go_wp2_with fail
          with_reducible refine hgc.out.mono ?_
          rintro e W4 ⟨v, y, rfl, hv4, hPJ, hC4⟩
          have hBC4 := (hBC.out).chg hC4 (fun h => hCf.out C (.inr h) rfl)
          have hBA4 := (hBA3.out).chg hC4 (fun h => hAf.out A (.inr h) rfl)
          have hAM : A ≠ M := fun e => hAf.out M (.inl rfl) e.symm
          have ho4 : Ints W4 o G.lookS.2 := Slc.chg ho3.out hC4 hof.out
          have hs := same_any G.lookS.2 G.lookS.2 v o W4 hv4 ho4
          rw [sameL_self] at hs
          replace hs := Lib.hid hs
          replace hBC4 := Lib.hid hBC4
          replace hBA4 := Lib.hid hBA4
          replace hPJ := Lib.hid hPJ
          clear hMd hBC hBA3 hgc hC4 ho3 ho4 hv4
          go_wp2_with fail
          with_reducible refine hs.out.mono ?_
          rintro e W5 ⟨rfl, hk5⟩
          replace hBC4 := hBC4.out.keeps hk5
          replace hBA4 := hBA4.out.keeps hk5
          replace hPJ := hPJ.out.kept hk5
          have hNX := hPJ.store
          have hBA5 := hBA4.otherRow hAM x'.cs.toArray
          have hon := hPJ.r.sl.ones
          have hbm := hPJ.bm
          have hbd := hB.out.poll hP.out.hR hP.out.fit y
          replace hBC4 := Lib.hid hBC4
          replace hNX := Lib.hid hNX
          replace hBA5 := Lib.hid hBA5
          replace hon := Lib.hid hon
          replace hbm := Lib.hid hbm
          replace hbd := Lib.hid hbd
          clear hBA4 hPJ hs hk5
          go_wp2_with (first | (refine loadA12 hBC4.out rfl _ rfl rfl ?_) | (refine storeA12 hbm.out hon.out rfl _ _ rfl rfl rfl rfl ?_))
          go_meet
          exact ⟨x', _, _, _, hbd.out, hNX.out, hBA5.out⟩
        · as_aux_lemma =>
          have hq := hP.out.mPoll hB.out.b0 (by have := hB.out.b1; omega) hB.out.la (by have := hB.out.l; omega) (by have := hP.out.fit.len; omega) (by omega)
          replace hq := Lib.hid hq
          go_wp2_with (refine loadA12 hP.out.bm rfl _ rfl rfl ?_)
          with_reducible refine hq.out.mono ?_
          rintro e W2 ⟨x', o, rfl, hMd, hwt, ho, hfo⟩
          have hb0 := Blk.new W2 57 Gv.zero.cs
          have ho0 := hMd.r.sl.ones
          have hMd2 := hMd.kept (box12 W2 x').2
          have hBC := (box12 W2 x').1
          have hBA2 := (hBA.out.keeps hMd.k).keeps (box12 W2 x').2
          have ho2 : Ints _ o G.lookS.2 := Slc.below ho (box12 W2 x').2
          obtain ⟨C, hC⟩ : ∃ C, C = W2.heap.size := ⟨_, rfl⟩
          have hCf : ∀ b, b = M ∨ GF g sp p rb n pp bb G.sc b → b ≠ C := fun b hb => by have := hMd.lo b hb; have := hMd.k.size; omega
          have hof : ∀ b, o.ownBlock = some b → ¬ GF g sp p rb n pp bb G.sc b := fun b hb hF => by have := hfo b hb; have := hMd.lo b (.inr hF); omega
          rw [← hC] at hMd2 hBC hb0 hBA2 ho2
          replace hC := Lib.hid hC
          replace hb0 := Lib.hid hb0
          replace ho0 := Lib.hid ho0
          replace hMd2 := Lib.hid hMd2
          replace hBC := Lib.hid hBC
          replace hBA2 := Lib.hid hBA2
          replace hCf := Lib.hid hCf
          replace ho2 := Lib.hid ho2
          replace hof := Lib.hid hof
          clear hMd hq ho hfo
          go_upto_region 12 with (first | (rw [← hC.out]; refine storeA12 hb0.out ho0.out rfl _ _ rfl rfl rfl rfl ?_))
          refine wp_gen (fun W3 => Mid12 w W g sp p rb cap n pp bb M x G l L x' l (pG (G.lookS.1.begS 0) (polD G L)) W3 ∧ Blk W3 C 57 x'.cs ∧ Blk W3 A 33 [.int .i64 ki, .int .i64 rd, .int .i64 cp, .int .i64 id] ∧ Ints W3 o G.lookS.2) ⟨hMd2.out, hBC.out, hBA2.out, ho2.out⟩ ?_
          clear hMd2 hBC hBA2 hC hb0 ho0 a0 a1 a2 a3 ho2
          rintro W3 ⟨hMd, hBC, hBA3, ho3⟩
          have hgc := hMd.gPoll hwt hT.out hB.out.b0 (by have := hB.out.b1; omega) hB.out.la (by omega)
          replace hMd := Lib.hid hMd
          replace hBC := Lib.hid hBC
          replace hBA3 := Lib.hid hBA3
          replace hgc := Lib.hid hgc
          replace ho3 := Lib.hid ho3
          go_wp2_with fail
          with_reducible refine hgc.out.mono ?_
          rintro e W4 ⟨v, y, rfl, hv4, hPJ, hC4⟩
          have hBC4 := (hBC.out).chg hC4 (fun h => hCf.out C (.inr h) rfl)
          have hBA4 := (hBA3.out).chg hC4 (fun h => hAf.out A (.inr h) rfl)
          have hAM : A ≠ M := fun e => hAf.out M (.inl rfl) e.symm
          have ho4 : Ints W4 o G.lookS.2 := Slc.chg ho3.out hC4 hof.out
          have hs := same_any G.lookS.2 G.lookS.2 v o W4 hv4 ho4
          rw [sameL_self] at hs
          replace hs := Lib.hid hs
          replace hBC4 := Lib.hid hBC4
          replace hBA4 := Lib.hid hBA4
          replace hPJ := Lib.hid hPJ
          clear hMd hBC hBA3 hgc hC4 ho3 ho4 hv4
          go_wp2_with fail
          with_reducible refine hs.out.mono ?_
          rintro e W5 ⟨rfl, hk5⟩
          replace hBC4 := hBC4.out.keeps hk5
          replace hBA4 := hBA4.out.keeps hk5
          replace hPJ := hPJ.out.kept hk5
          have hNX := hPJ.store
          have hBA5 := hBA4.otherRow hAM x'.cs.toArray
          have hon := hPJ.r.sl.ones
          have hbm := hPJ.bm
          have hbd := hB.out.poll hP.out.hR hP.out.fit y
          replace hBC4 := Lib.hid hBC4
          replace hNX := Lib.hid hNX
          replace hBA5 := Lib.hid hBA5
          replace hon := Lib.hid hon
          replace hbm := Lib.hid hbm
          replace hbd := Lib.hid hbd
          clear hBA4 hPJ hs hk5
          go_wp2_with (first | (refine loadA12 hBC4.out rfl _ rfl rfl ?_) | (refine storeA12 hbm.out hon.out rfl _ _ rfl rfl rfl rfl ?_))
          go_meet
          exact ⟨x', _, _, _, hbd.out, hNX.out, hBA5.out⟩
      case rest =>
        as_aux_lemma =>
        obtain ⟨x2, G2, l2, L2, hB2, hP2, hBA2⟩ := hcut
        obtain ⟨W2, hW2⟩ : ∃ W2, W2 = wc := ⟨_, rfl⟩
        rw [← hW2] at hP2 hBA2 ⊢
        clear hW2 hP hBA hB a0 a1 a2 a3 hAf
        replace hB2 := Lib.hid hB2
        have hdep : ∀ (W : World) (_ : PJ12 w g sp p rb cap n pp bb M x2 x2 G2 l2 L2 W) (y : After W), Calls Tryd.prog 31 #[.pointer (some ⟨g, 0, none⟩), .int .i64 rd] y.now fun e w' => e = .returned (.int .i64 (G2.S.depI rd)) ∧ ∃ z : After W, w' = z.now := fun W h y => After.call y (by
          exact gdepth_any (h.kept y.keeps).gi.at' rd)
        have hrd : ∀ (W : World) (_ : PJ12 w g sp p rb cap n pp bb M x2 x2 G2 l2 L2 W) (y : After W), Calls Tryd.prog 32 #[x2.u, .int .i64 rd] y.now fun e w' => e = .returned (.int .i64 (G2.S.depI rd)) ∧ ∃ z : After W, w' = z.now := fun W h y => After.same y (by
          have := rDepth_any x2.u l2 rd y.now (h.r.keeps y.keeps).u (by have := hB2.out.l; omega)
          rw [dTo_all h.good, ← h.hS] at this
          exact this)
        have hin : ∀ (W : World) (_ : PJ12 w g sp p rb cap n pp bb M x2 x2 G2 l2 L2 W) (y : After W), Calls Tryd.prog 19 #[.pointer (some ⟨g, 0, none⟩)] y.now fun e w' => e = .returned (.int .u64 (G2.S.m : Nat)) ∧ ∃ z : After W, w' = z.now := fun W h y => After.same y (by
          exact gin_any (h.kept y.keeps).gi.at')
        have hri : ∀ (W : World) (_ : PJ12 w g sp p rb cap n pp bb M x2 x2 G2 l2 L2 W) (y : After W), Calls Tryd.prog 33 #[x2.u, .int .i64 (-1)] y.now fun e w' => e = .returned (.int .u64 (G2.S.m : Nat)) ∧ ∃ z : After W, w' = z.now := fun W h y => After.call y (by
          have := rIn_any x2.u l2 (-1) y.now (h.r.keeps y.keeps).u h.good (by have := hB2.out.l; omega)
          rw [inF_all (runD_ok l2), ← h.hS] at this
          exact this)
        have hgen : ∀ (W : World) (_ : PJ12 w g sp p rb cap n pp bb M x2 x2 G2 l2 L2 W) (y : After W), Calls Tryd.prog 34 #[.pointer (some ⟨g, 0, none⟩)] y.now fun e w' => e = .returned (.int .i64 x2.bg) ∧ ∃ z : After W, w' = z.now := fun W h y => After.same y (by
          rw [show x2.bg = G2.began from h.r.bg]
          exact ggen_any (h.kept y.keeps).gi.at')
        have hdon : ∀ (W : World) (_ : PJ12 w g sp p rb cap n pp bb M x2 x2 G2 l2 L2 W) (y : After W), Calls Tryd.prog 13 #[.pointer (some ⟨g, 0, none⟩)] y.now fun e w' => e = .returned (.int .i64 x2.ov) ∧ ∃ z : After W, w' = z.now := fun W h y => After.same y (by
          rw [show x2.ov = G2.done from h.r.ov]
          exact gdone_any (h.kept y.keeps).gi.at')
        have hrun : ∀ (W : World) (_ : PJ12 w g sp p rb cap n pp bb M x2 x2 G2 l2 L2 W) (y : After W), Calls Tryd.prog 21 #[.pointer (some ⟨g, 0, none⟩)] y.now fun e w' => e = .returned (.bool x2.runs) ∧ ∃ z : After W, w' = z.now := fun W h y => After.same y (by
          have e : x2.runs = G2.sc.isSome := h.r.runs.trans (by show (Option.map _ _).isSome = _; rw [Option.isSome_map])
          rw [e]
          exact grunning_any (h.kept y.keeps).gi.at')
        have hhol : ∀ (W : World) (_ : PJ12 w g sp p rb cap n pp bb M x2 x2 G2 l2 L2 W) (y : After W), Calls Tryd.prog 35 #[.pointer (some ⟨g, 0, none⟩)] y.now fun e w' => e = .returned (.int .u64 (G2.left : Nat)) ∧ ∃ z : After W, w' = z.now := fun W h y => After.same y (by
          exact gholdouts_any (h.kept y.keeps).gi.at')
        have hrho : ∀ (W : World) (_ : PJ12 w g sp p rb cap n pp bb M x2 x2 G2 l2 L2 W) (y : After W), Calls Tryd.prog 36 #[x2.agg] y.now fun e w' => e = .returned (.int .u64 (G2.left : Nat)) ∧ ∃ z : After W, w' = z.now := fun W h y => After.call y (by
          obtain ⟨h1, h2, h3⟩ := (h.kept y.keeps).hold
          have := r12Holdouts_any x2 G2.left y.now h1 h2
          rw [h3] at this
          exact this)
        have hwai : ∀ (W : World) (_ : PJ12 w g sp p rb cap n pp bb M x2 x2 G2 l2 L2 W) (y : After W), Calls Tryd.prog 20 #[.pointer (some ⟨g, 0, none⟩)] y.now fun e w' => e = .returned (.int .i64 (L2.length : Nat)) ∧ ∃ z : After W, w' = z.now := fun W h y => After.call y (by
          have := gwaiting_any (h.kept y.keeps).gi.at'
          rw [h.hR, K.len_ringsL h.fit] at this
          exact this)
        have hbar : ∀ (W : World) (_ : PJ12 w g sp p rb cap n pp bb M x2 x2 G2 l2 L2 W) (y : After W), Calls Tryd.prog 22 #[.pointer (some ⟨g, 0, none⟩)] y.now fun e w' => e = .returned (.int .i64 G2.bar) ∧ ∃ z : After W, w' = z.now := fun W h y => After.call y (by
          exact gbarrier_any (h.kept y.keeps).gi.at' hB2.out.b0 (by have := hB2.out.b1; omega))
        have hrba : ∀ (W : World) (_ : PJ12 w g sp p rb cap n pp bb M x2 x2 G2 l2 L2 W) (y : After W), Calls Tryd.prog 37 #[x2.agg] y.now fun e w' => e = .returned (.int .i64 G2.bar) ∧ ∃ z : After W, w' = z.now := fun W h y => After.call y (by
          have hb : x2.bg = G2.began := h.r.bg
          have := r12Barrier_any x2 L2 y.now (h.r.keeps y.keeps).lv (by rw [hb]; exact hB2.out.b0) (by rw [hb]; have := hB2.out.b1; omega)
          rw [← h.bar] at this
          exact this)
        have hove : ∀ (W : World) (_ : PJ12 w g sp p rb cap n pp bb M x2 x2 G2 l2 L2 W) (y : After W), Calls Tryd.prog 16 #[.pointer (some ⟨g, 0, none⟩), .int .i64 tk] y.now fun e w' => e = .returned (.bool (decide (tk ≤ x2.ov))) ∧ ∃ z : After W, w' = z.now := fun W h y => After.same y (by
          rw [show x2.ov = G2.done from h.r.ov]
          exact gover_any (h.kept y.keeps).gi.at' tk)
        obtain ⟨lq, lc, hlv, _⟩ := hP2.r.lv.get
        have hlv2 : x2.lv = .slice lq L2.length lc := hlv
        have hLI : (0 : Int) ≤ (L2.length : Int) := by omega
        have a1 := hBA2.cell 1 (by simp)
        simp only [List.getElem_cons_zero, List.getElem_cons_succ] at a1
        have ca1 := After.cell a1
        have z0 := hP2.bm.cell 0 (by simp [Gv.cs])
        have z4 := hP2.bm.cell 4 (by simp [Gv.cs])
        have z8 := hP2.bm.cell 8 (by simp [Gv.cs])
        have z9 := hP2.bm.cell 9 (by simp [Gv.cs])
        simp only [Gv.cs, List.getElem_cons_zero, List.getElem_cons_succ] at z0 z4 z8 z9
        have cz0 := After.cell z0
        have cz4 := After.cell z4
        have cz8 := After.cell z8
        have cz9 := After.cell z9
        clear a1 z0 z4 z8 z9 hlv
        generalize G2.S.depI rd = dp at *
        generalize G2.S.m = mm at *
        generalize G2.bar = br at *
        generalize G2.left = lf at *
        replace hdep := Lib.hid hdep
        replace hrd := Lib.hid hrd
        replace hin := Lib.hid hin
        replace hri := Lib.hid hri
        replace hgen := Lib.hid hgen
        replace hdon := Lib.hid hdon
        replace hrun := Lib.hid hrun
        replace hhol := Lib.hid hhol
        replace hrho := Lib.hid hrho
        replace hwai := Lib.hid hwai
        replace hbar := Lib.hid hbar
        replace hrba := Lib.hid hrba
        replace hove := Lib.hid hove
        replace hP2 := Lib.hid hP2
        replace hBA2 := Lib.hid hBA2
        replace hlv2 := Lib.hid hlv2
        go_wp2_with fail
        refine region_after (by kernel_rfl) (by kernel_rfl) ?_
        repeat (go_big_quiet_step (first | (with_reducible exact hdep.out _ hP2.out _) | (with_reducible exact hrd.out _ hP2.out _) | (with_reducible exact hin.out _ hP2.out _) | (with_reducible exact hri.out _ hP2.out _) | (with_reducible exact hgen.out _ hP2.out _) | (with_reducible exact hdon.out _ hP2.out _) | (with_reducible exact hrun.out _ hP2.out _)))
        refine wpQuiet_nil ?_
        rintro W3 ⟨⟨W3', hK3⟩, hX3⟩
        replace hX3 : W3 = W3' := hX3
        subst hX3
        have hP3 := hP2.out.kept hK3
        have z3 := hP3.bm.cell 3 (by simp [Gv.cs])
        have z9 := hP3.bm.cell 9 (by simp [Gv.cs])
        simp only [Gv.cs, List.getElem_cons_zero, List.getElem_cons_succ] at z3 z9
        rw [hlv2.out] at z3
        have cz3 := After.cell z3
        have cz9 := After.cell z9
        have hrow : ∀ W, (∃ y : After W3, W = y.now) → Blk W M 57 x2.cs := fun W h => by obtain ⟨y, rfl⟩ := h; exact hP3.bm.keeps y.keeps
        replace hrow := Lib.hid hrow
        clear hP2 hBA2 hK3 ca1 z3 z9 cz0 cz4 cz8 hdep hrd hin hri hgen hdon hrun
        replace hP3 := Lib.hid hP3
        go_wp2_with fail
        refine region_after (by kernel_rfl) (by kernel_rfl) ?_
        iterate 2 (go_big_quiet_step (first | (with_reducible exact hhol.out _ hP3.out _) | (with_reducible exact hrho.out _ hP3.out _) | (with_reducible exact hwai.out _ hP3.out _) | (with_reducible exact hbar.out _ hP3.out _) | (with_reducible exact hrba.out _ hP3.out _) | (with_reducible exact hove.out _ hP3.out _)))
        refine quietA12 hrow.out rfl _ rfl rfl ?_
        go_frame
        iterate 14 (go_big_quiet_step (first | (with_reducible exact hhol.out _ hP3.out _) | (with_reducible exact hrho.out _ hP3.out _) | (with_reducible exact hwai.out _ hP3.out _) | (with_reducible exact hbar.out _ hP3.out _) | (with_reducible exact hrba.out _ hP3.out _) | (with_reducible exact hove.out _ hP3.out _)))
        refine quietA12 hrow.out rfl _ rfl rfl ?_
        go_frame
        repeat (go_big_quiet_step (first | (with_reducible exact hhol.out _ hP3.out _) | (with_reducible exact hrho.out _ hP3.out _) | (with_reducible exact hwai.out _ hP3.out _) | (with_reducible exact hbar.out _ hP3.out _) | (with_reducible exact hrba.out _ hP3.out _) | (with_reducible exact hove.out _ hP3.out _)))
        refine wpQuiet_nil ?_
        rintro _ ⟨⟨W4, hK4⟩, rfl⟩
        have hP4 := hP3.out.kept hK4
        replace hP4 := Lib.hid hP4
        clear hP3 hK4 hrow cz3 cz9 hhol hrho hwai hbar hrba hove
        go_wp2_with fail
        go_roundw
        case rel => exact ⟨k + 1, x2, G2, l2, L2, by omega, by omega, by go_num, hB2.out, hP4.out⟩
        case measure => (simp [intOf]; try omega)
    · have h1I : ¬ (k : Int) < (acts.length : Int) ∨ ((k : Int) < (acts.length : Int) ∧ ¬ (k : Int) < 50) := by omega
      have hkn2 := hkn.out wo hP.gi.keeps
      have hKe := hP.gi.keeps
      replace hkn2 := Lib.hid hkn2
      replace hKe := Lib.hid hKe
      clear hP hgo hkn hB
      rcases h1I with h1I | ⟨h1I, h2I⟩
      all_goals
        go_wp2_with fail
        with_reducible refine hkn2.out.mono ?_
        rintro e W8 ⟨rfl, hK8⟩
        go_wp2_with fail
        go_ret
        exact ⟨rfl, hKe.out.trans hK8⟩
end Go.Proofs.YtefippjakkgjkaaDoor
