/- The law ScanPlays: what holds between two calls. -/
import Derived.Test.YtpncnddlmlciaaaDoorRef10f
import Derived.Test.YtpncnddlmlciaaaDoorLaw10c
namespace Go.Proofs.YtpncnddlmlciaaaDoor
open Go.RowKit Go.Shelf

def NoB (cs : List Value) : Prop := ∀ y ∈ cs, ∀ b : Bool, y ≠ .bool b
theorem Blk.someB {W : World} {g : Nat} {t : TypeId} {cs : List Value} (hB : Blk W g t cs) {k : Nat} {y : Value} (h : W.cell? ⟨g, k, none⟩ = some y) : y ∈ cs := by
  simp only [World.cell?, show W.heap[g]? = _ from hB] at h
  simp only [List.getElem?_toArray] at h
  exact List.mem_of_getElem? h
theorem Bools.apart {W : World} {v : Value} {m g : Nat} {t : TypeId} {cs : List Value} (h : Bools W v m) (hB : Blk W g t cs) (hn : NoB cs) : ∀ c, v.ownBlock = some c → c ≠ g := by
  obtain ⟨vb, off, cap, rfl, _, _, _, hcell⟩ := h.open
  intro c hc e
  simp only [Value.ownBlock, Option.some.injEq] at hc
  subst hc e
  exact hn _ (hB.someB (hcell 0 (by omega))) _ rfl
theorem Deeds.chgB {W W' : World} {v : Value} {l : List (Int × Bool)} {g : Nat} {t : TypeId} {cs : List Value} (h : Deeds W v l) (hC : Chg (· = g) W W') (hB : Blk W g t cs) (hn : NoB cs) : Deeds W' v l := by
  by_cases h0 : 0 < l.length
  · refine SlcS.chg h hC fun b hb e => ?_
    obtain ⟨p, cap, rfl, _, _, hc⟩ := h.get
    obtain ⟨b', off, rfl, _, h1⟩ := hc 0 h0
    simp only [Value.ownBlock, Option.some.injEq] at hb
    subst hb e
    exact hn _ (hB.someB h1) _ rfl
  · obtain rfl : l = [] := List.eq_nil_of_length_eq_zero (by omega)
    obtain ⟨p, cap, hv, hl, hc, hn, hs, _⟩ := h
    exact ⟨p, cap, hv, hl, hc, hn, hs, fun i hi => absurd hi (by simp)⟩
theorem noB_sect (S : SSt) : NoB (sCells S) := by
  intro y hy b e
  subst e
  simp only [sCells, List.mem_append, List.mem_flatten, List.mem_map] at hy
  rcases hy with ⟨el, ⟨x, _, rfl⟩, h⟩ | h
  · simp [rdEl] at h
  · simp at h
theorem noB_scan (a : Value) (m b p : Int) (ha : ∀ c : Bool, a ≠ .bool c) : NoB [a, .int .u64 m, .int .i64 b, .int .i64 p] := by
  intro y hy c e
  subst e
  simp only [List.mem_cons, List.not_mem_nil, or_false] at hy
  rcases hy with h | h | h | h
  · exact ha c h.symm
  all_goals cases h
theorem noB_sc (b p : Int) (q : Option Addr) (n c : Nat) : NoB (scCells b p (.slice q n c)) := by
  intro y hy d e
  subst e
  simp [scCells] at hy
/-- What holds between two calls: sections at p, the scan at x, the document's at q. -/
structure InvP (w : World) (p x q : Nat) (l : List (Int × Bool)) (u : Value) (c1 c2 : ScSt) (v : Value) (W : World) : Prop where
  scan : ScanAt W x p (runD l) c1
  deeds : Deeds W u l
  good : Good l
  sep : ∀ b, u.ownBlock = some b → b ≠ p
  blk : Blk W q 50 (scCells c2.began c2.place v)
  bools : Bools W v c2.left
  hp : w.heap.size ≤ p
  hx : w.heap.size ≤ x
  hq : w.heap.size ≤ q
  pq : q ≠ p
  xq : q ≠ x
  keeps : Keeps w W
section
variable {w : World} {p x q : Nat} {l : List (Int × Bool)} {u : Value} {c1 c2 : ScSt} {v : Value} {W : World}
theorem InvP.kept {W' : World} (h : InvP w p x q l u c1 c2 v W) (hk : Keeps W W') : InvP w p x q l u c1 c2 v W' :=
  ⟨h.scan.keeps hk, h.deeds.keeps hk, h.good, h.sep, h.blk.keeps hk, h.bools.keeps hk, h.hp, h.hx, h.hq, h.pq, h.xq, Keeps.trans h.keeps hk⟩
theorem InvP.noQ (h : InvP w p x q l u c1 c2 v W) : NoB (scCells c2.began c2.place v) := by
  obtain ⟨_, _, _, rfl, _⟩ := h.bools.open
  exact noB_sc _ _ _ _ _
/-- A reader enters or leaves. -/
theorem InvP.did {W' : World} {u2 : Value} {l2 : List (Int × Bool)} (h : InvP w p x q l u c1 c2 v W) (hS : SectAt W' p (runD l2)) (hD : Deeds W' u2 l2) (hg : Good l2) (hs : ∀ c, u2.ownBlock = some c → c ≠ p) (hC : Chg (· = p) W W') :
    InvP w p x q l2 u2 c1 c2 v W' :=
  ⟨h.scan.resect hC hS, hD, hg, hs, h.blk.chg hC h.pq, Slc.chg h.bools hC (h.bools.apart h.scan.sect.hdr (noB_sect _)), h.hp, h.hx, h.hq, h.pq, h.xq, Chg.keeps hC h.keeps (fun k hk => by have := h.hp; omega)⟩
/-- The program's scan is another. -/
theorem InvP.prog {W' : World} {c3 : ScSt} (h : InvP w p x q l u c1 c2 v W) (hX : ScanAt W' x p (runD l) c3) (hC : Chg (· = x) W W') : InvP w p x q l u c3 c2 v W' :=
  have hn := noB_scan (.pointer (some ⟨p, 0, none⟩)) (c1.left : Int) (c1.began : Int) (c1.place : Int) (fun _ e => by cases e)
  ⟨hX, Deeds.chgB h.deeds hC h.scan.hdr hn, h.good, h.sep, h.blk.chg hC h.xq, Slc.chg h.bools hC (h.bools.apart h.scan.hdr hn), h.hp, h.hx, h.hq, h.pq, h.xq, Chg.keeps hC h.keeps (fun k hk => by have := h.hx; omega)⟩
/-- The document's scan is another. -/
theorem InvP.told {c3 : ScSt} {v3 : Value} (h : InvP w p x q l u c1 c2 v W) (hb : Bools W v3 c3.left) : InvP w p x q l u c1 c3 v3 (W.setRow q (scCells c3.began c3.place v3).toArray) := by
  have hC : Chg (· = q) W (W.setRow q (scCells c3.began c3.place v3).toArray) := Chg.setRow _ rfl
  have hn := h.noQ
  exact ⟨⟨h.scan.hdr.chg hC (fun e => h.xq e.symm), h.scan.sect.chg hC (fun e => h.pq e.symm), h.scan.ok, h.scan.ne⟩, Deeds.chgB h.deeds hC h.blk hn, h.good, h.sep, h.blk.setRow _, Slc.chg hb hC (hb.apart h.blk hn), h.hp, h.hx, h.hq, h.pq, h.xq, Chg.keeps hC h.keeps (fun k hk => by have := h.hq; omega)⟩
/-- What a look at both sides finds, in whatever world behind. -/
theorem InvP.tells {c : ScSt} (h : InvP w p x q l u c c v W) :
    (∀ y : After W, Calls Tryd.prog 18 #[.pointer (some ⟨x, 0, none⟩)] y.now fun e w' => e = .returned (.int .i64 (c.began : Int)) ∧ ∃ z : After W, w' = z.now) ∧
    (∀ y : After W, Calls Tryd.prog 9 #[.pointer (some ⟨x, 0, none⟩)] y.now fun e w' => e = .returned (.int .u64 (c.left : Int)) ∧ ∃ z : After W, w' = z.now) ∧
    (∀ y : After W, Calls Tryd.prog 24 #[.pointer (some ⟨x, 0, none⟩)] y.now fun e w' => e = .returned (.int .i64 (c.place : Int)) ∧ ∃ z : After W, w' = z.now) ∧
    (∀ y : After W, Calls Tryd.prog 16 #[.pointer (some ⟨x, 0, none⟩)] y.now fun e w' => e = .returned (.bool (decide (c.left = 0))) ∧ ∃ z : After W, w' = z.now) ∧
    (∀ y : After W, Calls Tryd.prog 19 #[.agg (scCells c.began c.place v).toArray] y.now fun e w' => e = .returned (.int .u64 (c.left : Int)) ∧ ∃ z : After W, w' = z.now) ∧
    (∀ y : After W, Calls Tryd.prog 21 #[.agg (scCells c.began c.place v).toArray] y.now fun e w' => e = .returned (.int .i64 (lenN c.left : Nat)) ∧ ∃ z : After W, w' = z.now) ∧
    (∀ w', (∃ y : After W, w' = y.now) → Blk w' q 50 (scCells c.began c.place v)) ∧
    (∀ y : After W, y.now.cell? ⟨q, 0, none⟩ = some (.int .i64 (c.began : Int))) ∧ (∀ y : After W, y.now.cell? ⟨q, 1, none⟩ = some (.int .i64 (c.place : Int))) :=
  ⟨fun y => After.same y (began_cell (h.scan.keeps y.keeps).c2), fun y => After.same y (left_any (h.scan.keeps y.keeps)), fun y => After.same y (place_any (h.scan.keeps y.keeps)), fun y => After.same y (done_any (h.scan.keeps y.keeps)),
   fun y => After.call y (r10Word_any c.began c.place v c.left y.now h.scan.ok.word (h.bools.keeps y.keeps)), fun y => After.call y (r10Count_any c.began c.place v c.left y.now (h.bools.keeps y.keeps)),
   fun w' ⟨y, e⟩ => by subst e; exact h.blk.keeps y.keeps, After.cell (h.blk.cell 0 (by simp [scCells])), After.cell (h.blk.cell 1 (by simp [scCells]))⟩
end
/-- Do, on both sides. -/
theorem doP_any {w : World} {p : Nat} {l : List (Int × Bool)} {u : Value} (h : SectAt w p (runD l)) (hd : Deeds w u l) (hg : Good l) (hsep : ∀ c, u.ownBlock = some c → c ≠ p) (hl : l.length ≤ 900) (d : Int × Bool) :
    Calls Tryd.prog 7 #[.pointer (some ⟨p, 0, none⟩), u, .agg #[.int .i64 d.1, .bool d.2]] w fun e w' => ∃ (u2 : Value) (l2 : List (Int × Bool)), e = .returned u2 ∧ SectAt w' p (runD l2) ∧ Deeds w' u2 l2 ∧ Good l2 ∧ (∀ c, u2.ownBlock = some c → c ≠ p) ∧ l2.length ≤ l.length + 1 ∧ Chg (· = p) w w' := by
  have hst := runD_st l
  refine (do_any h hd hg hsep (by omega) (by omega) d).mono fun e w' ⟨u2, h1, h2, h3, h4, h5⟩ => ⟨u2, if d.2 = true then exiD l d.1 else entD l d.1, h1, ?_, h3, ?_, h4, ?_, h5⟩
  · have e : runD (if d.2 = true then exiD l d.1 else entD l d.1) = (runD l).step d := by
      unfold SSt.step
      split
      · exact runD_exi l d.1
      · exact runD_ent l d.1
    rw [e]; exact h2
  · split
    · exact exiD_good hg d.1
    · exact entD_good hg d.1
  · split
    · exact exiD_len l d.1
    · exact entD_len l d.1
theorem look_idle (S : SSt) (c : ScSt) (r : Int) : lookB S (look S c r) r = false := by
  unfold look
  split
  · rename_i h
    unfold lookB
    simp only
    have : hasN (withoutN c.left [r]) r = false := by
      unfold hasN
      by_cases hr : 0 ≤ r ∧ r < 64
      · rw [decide_eq_true hr, Bool.true_and, testBit_withoutN _ (by omega)]
        simp [show ((r.toNat : Nat) : Int) = r by omega]
      · rw [decide_eq_false hr, Bool.false_and]
    rw [this, Bool.false_and]
  · rename_i h; exact Bool.eq_false_iff.2 h
theorem look_not {S : SSt} {c : ScSt} {r : Int} (h : lookB S c r = false) : look S c r = c := by unfold look; rw [h]; rfl
theorem quiets_two (S : SSt) (c : ScSt) (r : Int) : quiets S c [r, r] = (look S c r, if lookB S c r = true then 1 else 0) := by
  rw [quiets_cons, quiets_cons]
  have h := look_idle S c r
  have h2 : look S (look S c r) r = look S c r := look_not h
  rw [h2, h]
  simp [quiets]
/-- Count, as a walk calls it. -/
theorem count_at (b p : Int) (v : Value) (m : Nat) (w : World) (hv : Bools w v m) :
    Calls Tryd.prog 21 #[.agg #[.int .i64 b, .int .i64 p, v]] w fun e w' => e = .returned (.int .i64 (lenN m : Nat)) ∧ Keeps w w' := r10Count_any b p v m w hv
/-- Look, the scan behind it told. -/
theorem look_told (c : ScSt) (v u : Value) (l : List (Int × Bool)) (r : Int) (w : World) (hv : Bools w v c.left) (hu : Deeds w u l) (hg : Good l) (hl : l.length ≤ 100000) :
    Calls Tryd.prog 22 #[.agg (scCells c.began c.place v).toArray, u, .int .i64 r] w fun e w' => ∃ v2, e = .returned (.tuple #[.agg (scCells (look (runD l) c r).began (look (runD l) c r).place v2).toArray, .bool (lookB (runD l) c r)]) ∧ Bools w' v2 (look (runD l) c r).left ∧ Keeps w w' := by
  rw [look_began, look_place]
  exact r10Look_any c v u l r w hv hu hg hl
/-- Poll, the scan behind it told. -/
theorem poll_told (c : ScSt) (hp : c.place < 64) (v u : Value) (l : List (Int × Bool)) (n : Int) (w : World) (hv : Bools w v c.left) (hu : Deeds w u l) (hg : Good l) (hl : l.length ≤ 100000) :
    Calls Tryd.prog 20 #[.agg (scCells c.began c.place v).toArray, u, .int .i64 n] w fun e w' => ∃ v2, e = .returned (.agg (scCells (poll (runD l) c n).began (poll (runD l) c n).place v2).toArray) ∧ Bools w' v2 (poll (runD l) c n).left ∧ Keeps w w' := by
  rw [poll_began]
  exact r10Poll_any c hp v u l n w hv hu hg hl
/-- Quiet of one reader, twice. -/
theorem quiet_two {W : World} {x p : Nat} {S : SSt} {c : ScSt} (h : ScanAt W x p S c) (r : Int) :
    Calls Tryd.prog 23 #[.pointer (some ⟨x, 0, none⟩), .slice (some ⟨W.heap.size, 0, none⟩) 2 2] (W.alloc (.cells #[.int .i64 r, .int .i64 r] 3)) fun e w' => e = .returned (.int .i64 (if lookB S c r = true then 1 else 0)) ∧ ScanAt w' x p S (look S c r) ∧ Chg (· = x) W w' := by
  have hlt := h.hdr.lt
  have := quiet_any (h.keeps (Keeps.alloc W (.cells #[.int .i64 r, .int .i64 r] 3))) (.slice (some ⟨W.heap.size, 0, none⟩) 2 2) [r, r] (ints_at W 3 [r, r] _ rfl (by simp [maxLen])) (fun b hb _ => by simp only [Value.ownBlock, Option.some.injEq] at hb; omega) (by simp)
  rw [quiets_two] at this
  refine this.mono fun e w' ⟨h1, h2, h3⟩ => ⟨?_, h2, (Chg.of_keeps (Keeps.alloc _ _)).trans h3⟩
  rw [h1]; split <;> rfl
/-- A slice of acts: kind, reader, out, count. -/
def actEl (a : Int × (Int × Bool) × Int) : List Value := [.int .i64 a.1, .int .i64 a.2.1.1, .bool a.2.1.2, .int .i64 a.2.2]
def Acts10 (w : World) (v : Value) (l : List (Int × (Int × Bool) × Int)) : Prop := SlcS 4 w v (l.map actEl)
theorem Acts10.get {w : World} {v : Value} {l : List (Int × (Int × Bool) × Int)} (h : Acts10 w v l) : ∃ p cap, v = .slice p l.length cap ∧ l.length ≤ cap ∧ cap ≤ 9223372036854775807 ∧
    ∀ i, (hi : i < l.length) → ∃ b off, p = some ⟨b, off, none⟩ ∧ w.cell? ⟨b, off + i * 4, none⟩ = some (.int .i64 l[i].1) ∧ w.cell? ⟨b, off + i * 4 + 1, none⟩ = some (.int .i64 l[i].2.1.1) ∧ w.cell? ⟨b, off + i * 4 + 2, none⟩ = some (.bool l[i].2.1.2) ∧ w.cell? ⟨b, off + i * 4 + 3, none⟩ = some (.int .i64 l[i].2.2) := by
  obtain ⟨p, cap, hv, hl, hc, hcell⟩ := SlcS.get h
  rw [List.length_map] at hv hl hcell
  refine ⟨p, cap, hv, hl, hc, fun i hi => ?_⟩
  obtain ⟨b, off, hp, hk⟩ := hcell i hi
  have e : (l.map actEl).getD i [] = actEl l[i] := by simp [List.getD, hi]
  rw [e] at hk
  exact ⟨b, off, hp, hk 0 (by decide), hk 1 (by decide), hk 2 (by decide), hk 3 (by decide)⟩
end Go.Proofs.YtpncnddlmlciaaaDoor
