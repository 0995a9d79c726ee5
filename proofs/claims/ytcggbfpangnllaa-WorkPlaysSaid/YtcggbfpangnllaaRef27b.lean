/- The document's answer for works: set, Set, Post, Stop, Shut, Clear, State: the walks. -/
import Derived.Test.YtcggbfpangnllaaRef27
namespace Go.Proofs.Ytcggbfpangnllaa
open Go.RowKit i64

theorem RowS.setCell {sz base : Nat} {e : TypeId} {w : World} {g n cap : Nat} {els : List (List Value)} (h : RowS sz base e w (.slice (some ⟨g, 0, none⟩) n cap) els) (i j : Nat) (hi : i < els.length) (hj : j < sz) (u : Value) :
    RowS sz base e (w.setCell ⟨g, i * sz + j, none⟩ u) (.slice (some ⟨g, 0, none⟩) n cap) (els.set i ((els.getD i []).set j u)) := by
  obtain ⟨⟨hl, h⟩, hs⟩ := h
  rcases h with ⟨h, _⟩ | ⟨g', cap', cur, h, hb, hg, hn, hm, hc, ht⟩
  · cases h
  · simp only [Value.slice.injEq, Option.some.injEq, Addr.mk.injEq] at h
    obtain ⟨⟨rfl, _⟩, rfl, rfl⟩ := h
    have hB : Blk w g e cur.toList := hg
    have hB2 := hB.set (i * sz + j) u
    refine ⟨⟨?_, .inr ⟨g, cap, (cur.toList.set (i * sz + j) u).toArray, by simp, hb, hB2, by simpa using hn, hm, by simp [hc], ?_⟩⟩, ?_⟩
    · rw [← flat_set hs i j u hi hj, List.length_set, hl]; simp
    · rw [List.length_set, List.take_set, ht, flat_set hs i j u hi hj]
    · intro el hel
      rcases List.mem_or_eq_of_mem_set hel with h' | rfl
      · exact hs el h'
      · rw [List.length_set, List.getD, List.getElem?_eq_getElem hi]; exact hs _ (List.getElem_mem hi)
theorem RowS.frozen {sz base : Nat} {e : TypeId} {w : World} {g n cap : Nat} {els : List (List Value)} (h : RowS sz base e w (.slice (some ⟨g, 0, none⟩) n cap) els) (k : Nat) : w.frozen? ⟨g, k, none⟩ = false := by
  rcases h.1.2 with ⟨h, _⟩ | ⟨g', cap', cur, h, hb, hg, _⟩
  · cases h
  · simp only [Value.slice.injEq, Option.some.injEq, Addr.mk.injEq] at h
    obtain ⟨⟨rfl, _⟩, rfl, rfl⟩ := h
    exact Blk.frozen (cs := cur.toList) hg k
theorem RowS.cells {sz base : Nat} {e : TypeId} {w : World} {g n cap : Nat} {els : List (List Value)} (h : RowS sz base e w (.slice (some ⟨g, 0, none⟩) n cap) els) (i j : Nat) (hi : i < els.length) (hj : j < sz) : w.cell? ⟨g, i * sz + j, none⟩ = some ((els.getD i []).getD j undef) := by
  obtain ⟨q, cp, hv, _, _, hc⟩ := SlcS.get h.slcs
  obtain ⟨b, off, hq, hc⟩ := hc i hi
  simp only [Value.slice.injEq] at hv
  obtain ⟨h1, _, _⟩ := hv
  rw [hq] at h1
  simp only [Option.some.injEq, Addr.mk.injEq] at h1
  obtain ⟨rfl, rfl, _⟩ := h1
  have := hc j hj
  rwa [Nat.zero_add] at this
theorem RowS.inZ {Z : Nat → Prop} {sz base : Nat} {e : TypeId} {W : World} {u : Value} {els : List (List Value)} (h : RowS sz base e W u els) (hz : ∀ b, Z b → b < base) : InZ Z W u := fun b hb => by
  have := row_own h.1 b hb
  exact ⟨fun hz' => by have := hz b hz'; omega, this.2⟩
theorem RowS.some {sz base : Nat} {e : TypeId} {w : World} {v : Value} {els : List (List Value)} (h : RowS sz base e w v els) (hne : 0 < els.length) : ∃ g cap, v = .slice (.some ⟨g, 0, none⟩) els.length cap ∧ els.length ≤ cap ∧ cap ≤ 9223372036854775807 ∧ base ≤ g := by
  rcases h.1.2 with ⟨_, h0⟩ | ⟨g, cap, cur, hv, hb, hg, hn, hm, _⟩
  · omega
  · unfold maxLen at hm
    exact ⟨g, cap, hv, hn, hm, hb⟩
theorem infoOne : (Try.prog.info? 62).map (fun i => (i.zero, i.size, i.bytes)) = some (some (.agg #[.bool false, .int .i64 0]), 2, 16) := by kernel_rfl
def zW : List Value := .int .i64 0 :: .slice none 0 0 :: .slice none 0 0 :: .slice none 0 0 :: List.replicate 32 (.int .i64 0)
theorem Bx27.start {w : World} {B R : Nat} {cs : List Value} (hl : cs.length = 36) (h1 : B = w.heap.size) (h2 : R = w.heap.size + 1) :
    Bx27 w B R cs ((w.alloc (.cells cs.toArray 57)).alloc (.cells zW.toArray 57)) := by
  subst h1; subst h2
  exact ⟨(Blk.new _ _ _).alloc _, ⟨zW, Blk.at (by simp) rfl, by simp [zW]⟩, (Keeps.alloc _ _).trans (Keeps.alloc _ _), by omega, by omega, by omega, hl⟩
section
variable {w W W' : World} {n : Nat} {vq vr va : Value} {on : Nat → Int} {sh : Nat → Bool} {pr : Nat → Int} {s : WS} {Z : Nat → Prop}
set_option maxRecDepth 100000 in
set_option maxHeartbeats 1000000 in
theorem rset0_any (hq1 : vq.oneCell' = true) (hr1 : vr.oneCell' = true) (h : SlcS 2 w va (allE sh pr)) (i : Nat) (hi : i < 256) (b : Bool) (z : Int) :
    Calls Try.prog 67 #[rk n vq vr va on, .int .i64 i, .agg #[.bool b, .int .i64 (z - 1)]] w fun e w' => ∃ ua, e = .returned (rk n vq vr ua on) ∧ RowS 2 w.heap.size 62 w' ua (allE (updB sh i b) (updI pr i z)) ∧ Keeps w w' := by
  obtain ⟨p, cap, rfl, hl, hc, _⟩ := SlcS.get h
  have hi0 : (0 : Int) ≤ (i : Int) := by omega
  have hi1 : (i : Int) < 256 := by omega
  rw [allE_len] at hl
  have hlen := allE_len sh pr
  rw [hlen] at h ⊢
  have hset := allE_set sh pr i b z
  obtain ⟨x, hx⟩ : ∃ x, x = z - 1 := ⟨_, rfl⟩
  rw [← hx] at hset ⊢
  have hwl := wkC_len n vq vr (.slice p 256 cap) on
  have hon := fun ua => (show (wkC n vq vr (.slice p 256 cap) on).set 3 ua = wkC n vq vr ua on from rfl)
  have hz3 : (wkC n vq vr (.slice p 256 cap) on)[3]? = some (.slice p 256 cap) := rfl
  have hone := fun (ua : Value) (h : ua.oneCell' = true) => wkC_one (n := n) (on := on) hq1 hr1 h
  have hal := all_one sh pr
  replace h := Lib.hid h
  replace hset := Lib.hid hset
  replace hx := Lib.hid hx
  replace hon := Lib.hid hon
  replace hz3 := Lib.hid hz3
  replace hone := Lib.hid hone
  replace hal := Lib.hid hal
  replace hlen := Lib.hid hlen
  clear hq1 hr1
  unfold rk
  generalize hcs : wkC n vq vr (.slice p 256 cap) on = cs at *
  go_enter Try.func67, Try.ntmps67
  go_upto_region 1 with (fail)
  obtain ⟨B, hB⟩ : ∃ B, B = w.heap.size := ⟨_, rfl⟩
  refine wp_gen (fun W => Bx27 w B (B + 1 + 1) cs W ∧ Blk W (B + 1) 62 [.bool b, .int .i64 x]) ?_ ?_
  · subst hB
    have b1 := Blk.new (w.alloc (.cells cs.toArray 57)) 62 [.bool b, .int .i64 x]
    have b2 := Blk.new ((w.alloc (.cells cs.toArray 57)).alloc (.cells #[.bool b, .int .i64 x] 62)) 57 zW
    simp only [World.size_alloc] at b1 b2
    exact ⟨⟨((Blk.new w _ _).alloc _).alloc _, ⟨zW, b2, by simp [zW]⟩, (Keeps.alloc _ _).trans ((Keeps.alloc _ _).trans (Keeps.alloc _ _)), by omega, by omega, by omega, hwl⟩, b1.alloc _⟩
  rw [← hB]
  rintro W ⟨hX, hb1⟩
  have c3 := hX.b.cellK hz3.out
  have hKw := hX.k
  have hsrc := SlcS.below (SlcS.below h.out hKw) (Keeps.alloc W (.cells #[] 62))
  have hXs := fun W2 (hk : Keeps W W2) => hX.kept hk
  have hbs := fun W2 (hk : Keeps W W2) => hb1.keeps hk
  have hBl := hX.b.lt
  have hRl : B + 1 + 1 < W.heap.size := by obtain ⟨_, h1, _⟩ := hX.r; exact h1.lt
  replace hsrc := Lib.hid hsrc
  replace hXs := Lib.hid hXs
  replace hbs := Lib.hid hbs
  replace hB := Lib.hid hB
  clear hX hb1 h
  have hsz := hKw.size
  replace hKw := Lib.hid hKw
  go_wp2_with (at_builtin; refine appN rfl _ _ 55 62 _ 2 16 rfl Try.underlying55 infoOne rfl (by decide) W.heap.size _ [] rfl (RowS.empty 2 _ _ W (Nat.le_refl _)) _ _ rfl hsrc.out hal.out ?c1 ?c2 ?c3 ?_)
  case c1 => simp [hlen.out]; unfold maxLen; omega
  case c2 => simp [hlen.out]
  case c3 => simp
  intro v1 W3 hrow _ hbel
  have hK3 : Keeps W W3 := Below.trans (Keeps.alloc _ _) hbel
  obtain ⟨g, cap1, hv1, hcl, hcm, hgb⟩ := hrow.some (by rw [hlen.out]; decide)
  rw [hlen.out] at hv1 hcl
  subst hv1
  have y0 := hrow.cells i 0 (by rw [hlen.out]; exact hi) (by decide)
  have y1 := hrow.cells i 1 (by rw [hlen.out]; exact hi) (by decide)
  rw [allE_get sh pr i hi] at y0 y1
  simp only [List.getD_cons_zero, List.getD_cons_succ, Nat.add_zero] at y0 y1
  have d0 := hrow.frozen (i * 2)
  have d1 := hrow.frozen (i * 2 + 1)
  have b3 := hbs.out _ hK3
  have x0 : W3.cell? ⟨B + 1, 0, none⟩ = some (.bool b) := b3.cell 0 (by simp)
  have x1 : W3.cell? ⟨B + 1, 1, none⟩ = some (.int .i64 x) := b3.cell 1 (by simp)
  have hrow2 := (hrow.setCell i 0 (by rw [hlen.out]; exact hi) (by decide) (.bool b)).setCell i 1 (by rw [List.length_set, hlen.out]; exact hi) (by decide) (.int .i64 x)
  have he : ((allE sh pr).set i (((allE sh pr).getD i []).set 0 (.bool b))).set i ((((allE sh pr).set i (((allE sh pr).getD i []).set 0 (.bool b))).getD i []).set 1 (.int .i64 x)) = allE (updB sh i b) (updI pr i z) := by
    rw [← hset.out]
    simp [List.getD, allE, hi]
  rw [he, Nat.add_zero] at hrow2
  have hK4 : Keeps W ((W3.setCell ⟨g, i * 2, none⟩ (.bool b)).setCell ⟨g, i * 2 + 1, none⟩ (.int .i64 x)) := Chg.keeps ((Chg.setCell (S := (· = g)) _ _ rfl).trans (Chg.setCell _ _ rfl)) hK3 (fun k hk e => by omega)
  have hX4 := hXs.out _ hK4
  have hgl := cell_lt y0
  have hc3' := hX4.b.cellK hz3.out
  have hd3' := hX4.b.frozen 3
  have hX5 := hX4.set 3 (.slice (.some ⟨g, 0, none⟩) 256 cap1)
  rw [hon.out] at hX5
  have hrow5 := hrow2.chg (Chg.setCell (S := (· = B)) (w := (W3.setCell ⟨g, i * 2, none⟩ (.bool b)).setCell ⟨g, i * 2 + 1, none⟩ (.int .i64 x)) 3 (.slice (.some ⟨g, 0, none⟩) 256 cap1) rfl) (fun k hk e => by omega)
  have hf := hX5.fin (cs2 := wkC n vq vr (.slice (.some ⟨g, 0, none⟩) 256 cap1) on)
  have hrow6 := hrow5.chg (Chg.setRow (S := (· = B + 1 + 1)) (w := ((W3.setCell ⟨g, i * 2, none⟩ (.bool b)).setCell ⟨g, i * 2 + 1, none⟩ (.int .i64 x)).setCell ⟨B, 3, none⟩ (.slice (.some ⟨g, 0, none⟩) 256 cap1)) (wkC n vq vr (.slice (.some ⟨g, 0, none⟩) 256 cap1) on).toArray rfl) (fun k hk e => by omega)
  have hgB : g ≠ B := by omega
  have hone2 := hone.out (.slice (.some ⟨g, 0, none⟩) 256 cap1) rfl
  have hwl2 := wkC_len n vq vr (.slice (.some ⟨g, 0, none⟩) 256 cap1) on
  replace hX5 := Lib.hid hX5
  replace hf := Lib.hid hf
  replace hrow6 := Lib.hid hrow6
  replace hone2 := Lib.hid hone2
  clear hrow hrow2 hrow5 hK3 hK4 hX4 he hbel b3 hXs hbs hsrc hcl hcm
  go_wp2_with (first | (refine loadW27 hX5.out.b hwl2 rfl _ rfl rfl ?_) | (refine storeW27 hX5.out.r hwl2 hone2.out rfl _ _ rfl rfl rfl rfl ?_))
  exact bodyPost_ret (results_row rfl _ hf.out.1 rfl _ Try.underlying57 rfl 36 sizeW27 hwl2) rfl ⟨_, rfl, hrow6.out.base_le hsz, hf.out.2⟩
theorem RW.ones (h : RW Z w vq vr va s) : vq.oneCell' = true ∧ vr.oneCell' = true ∧ va.oneCell' = true := ⟨h.pd.q.one, h.pd.r.one, slcs_oneCell h.al⟩
theorem Bx27.out {B R : Nat} {cs cs2 : List Value} {uq ur ua : Value} (h : Bx27 w B R cs W) (hp : RW (ZB Z B R) W uq ur ua s) : Blk (W.setRow R cs2.toArray) R 57 cs2 ∧ RW Z (W.setRow R cs2.toArray) uq ur ua s ∧ Keeps w (W.setRow R cs2.toArray) :=
  ⟨h.fin.1, (hp.rowR _).unbox, h.fin.2⟩
/-- What a work's cells are. -/
theorem RW.at (h : RW Z w vq vr va s) (i : Nat) (hi : i < 256) : ∃ p cap b off, va = .slice p 256 cap ∧ p = some ⟨b, off, none⟩ ∧ 256 ≤ cap ∧ cap ≤ 9223372036854775807 ∧ w.cell? ⟨b, off + i * 2, none⟩ = some (.bool (s.sh i)) ∧ w.cell? ⟨b, off + i * 2 + 1, none⟩ = some (.int .i64 (s.pr i - 1)) := by
  obtain ⟨p, cap, hv, hl, hc, hcell⟩ := SlcS.get h.al
  rw [allE_len] at hv hl hcell
  obtain ⟨b, off, hp, hcell⟩ := hcell i hi
  have y0 := hcell 0 (by decide)
  have y1 := hcell 1 (by decide)
  rw [allE_get s.sh s.pr i hi] at y0 y1
  exact ⟨p, cap, b, off, hv, hp, hl, hc, y0, y1⟩
theorem updB_at {f : Nat → Bool} {i : Nat} {v : Bool} (h : f i = v) : updB f i v = f := by
  funext k; unfold updB; split
  · rename_i e; rw [e, h]
  · rfl
end
end Go.Proofs.Ytcggbfpangnllaa
