/- Whatever is put, got, set and freed: the walk. -/
import Derived.Test.YtanidaepfepppaaDoorAr8I
import Derived.Test.YtanidaepfepppaaDoorLaw03c
import Derived.Test.YtanidaepfepppaaDoorIterG
namespace Go.Proofs.YtanidaepfepppaaDoor.ArI
open Go.RowKit Go.Proofs.YtanidaepfepppaaDoor

def aEl (a : Int × Int × Int × Int) : List Value := [.int .i64 a.1, .int .i64 a.2.1, .int .i64 a.2.2.1, .int .i64 a.2.2.2]
/-- What holds while the law goes: the arena, the reference's slots, and they are apart. -/
structure InvQ (w : World) (p b B0 : Nat) (la : List (Slot El)) (m : Value) (lm : List ISlot) (W : World) : Prop where
  a : InvA w p b la W
  row : ∃ e, RowS 3 B0 e W m (lm.map rEl)
  hp : p < B0
  hb : b < B0
  hB : B0 ≤ W.heap.size
section
variable {w W W' : World} {p b B0 : Nat} {la la' : List (Slot El)} {m m' : Value} {lm lm' : List ISlot}
theorem rowKeeps {sz base : Nat} {e : TypeId} {v : Value} {els : List (List Value)} (h : RowS sz base e W v els) (hk : Keeps W W') : RowS sz base e W' v els := by
  refine ⟨⟨h.1.1, ?_⟩, h.2⟩
  rcases h.1.2 with h0 | ⟨g, cap, cur, hv, hb, hg, hr⟩
  · exact .inl h0
  · exact .inr ⟨g, cap, cur, hv, hb, (hk.block g ((Array.getElem?_eq_some_iff.1 hg).1)).trans hg, hr⟩
theorem InvQ.sl (h : InvQ w p b B0 la m lm W) : Slots W m lm := by obtain ⟨e, hr⟩ := h.row; exact hr.slcs
theorem InvQ.kept (h : InvQ w p b B0 la m lm W) (hk : Keeps W W') : InvQ w p b B0 la m lm W' := ⟨h.a.kept hk, by obtain ⟨e, hr⟩ := h.row; exact ⟨e, rowKeeps hr hk⟩, h.hp, h.hb, Nat.le_trans h.hB hk.size⟩
theorem InvQ.ar (h : InvQ w p b B0 la m lm W) (ha : ArenaAt W' p b la') (hc : Chg (fun k => k = p ∨ k = b) W W') : InvQ w p b B0 la' m lm W' :=
  ⟨h.a.chg ha hc, by obtain ⟨e, hr⟩ := h.row; exact ⟨e, hr.chg hc (fun c hcc hs => by have := h.hp; have := h.hb; omega)⟩, h.hp, h.hb, Nat.le_trans h.hB hc.size⟩
theorem slots_inj {v : Value} {l l' : List ISlot} (h : Slots W v l) (h' : Slots W v l') : l = l' := by
  obtain ⟨p, cap, rfl, _, _, hc⟩ := h.get
  obtain ⟨p', cap', hv', _, _, hc'⟩ := h'.get
  simp only [Value.slice.injEq] at hv'
  obtain ⟨rfl, hl, rfl⟩ := hv'
  apply List.ext_getElem hl
  intro i h1 h2
  obtain ⟨b, off, hp, a0, a1, a2⟩ := hc i h1
  obtain ⟨b', off', hp', b0, b1, b2⟩ := hc' i h2
  rw [hp] at hp'
  simp only [Option.some.injEq, Addr.mk.injEq, and_true] at hp'
  obtain ⟨rfl, rfl⟩ := hp'
  rw [a0] at b0; rw [a1] at b1; rw [a2] at b2
  simp only [Option.some.injEq, Value.int.injEq, Value.bool.injEq, true_and] at b0 b1 b2
  have e0 : l[i].gen = l'[i].gen := by omega
  generalize l[i] = x at *
  generalize l'[i] = y at *
  obtain ⟨g1, u1, x1⟩ := x
  obtain ⟨g2, u2, x2⟩ := y
  simp only at e0 b1 b2
  rw [e0, b1, b2]
theorem InvQ.told (h : InvQ w p b B0 la m lm W) (hn : SlotsN W m m' lm' W') : InvQ w p b B0 la m' lm' W' := by
  obtain ⟨h1, h2, h3⟩ := hn
  refine ⟨h.a.kept h3, ?_, h.hp, h.hb, Nat.le_trans h.hB h3.size⟩
  rcases h2 with rfl | ⟨e, h2⟩
  · rw [slots_inj h1 (h.sl.keeps h3)]; obtain ⟨e, hr⟩ := h.row; exact ⟨e, rowKeeps hr h3⟩
  · exact ⟨e, h2.base_le h.hB⟩
/-- The reference's slot i reads x now. -/
theorem InvQ.wrote {g n cap : Nat} (h : InvQ w p b B0 la (.slice (some ⟨g, 0, none⟩) n cap) lm W) (i : Nat) (hi : i < lm.length) (x : Int) :
    InvQ w p b B0 la (.slice (some ⟨g, 0, none⟩) n cap) (lm.set i ⟨lm[i].gen, lm[i].used, x⟩) (W.setCell ⟨g, i * 3 + 2, none⟩ (.int .i64 x)) := by
  obtain ⟨e, hr⟩ := h.row
  have hg := hr.own g rfl
  have hp := h.hp
  have hb := h.hb
  have hC : Chg (· = g) W (W.setCell ⟨g, i * 3 + 2, none⟩ (.int .i64 x)) := Chg.setCell _ _ rfl
  refine ⟨⟨⟨h.a.ar.hdr.chg hC (by omega), h.a.ar.buf.chg hC (by omega), h.a.ar.ne, h.a.ar.lo, h.a.ar.hi, h.a.ar.ok⟩, h.a.hp, h.a.hb, Chg.keeps hC h.a.keeps (fun k hk hs => by have := h.a.hp; omega)⟩, ⟨e, ?_⟩, h.hp, h.hb, by simpa [World.setCell] using h.hB⟩
  have := hr.setCell i 2 (by simpa using hi) (by decide) (.int .i64 x)
  rw [List.map_set]
  rw [show (lm.map rEl).getD i [] = rEl lm[i] by simp [List.getD, hi]] at this
  exact this
theorem InvQ.slice (h : InvQ w p b B0 la m lm W) (h0 : 0 < lm.length) : ∃ g cap, m = .slice (some ⟨g, 0, none⟩) lm.length cap ∧ lm.length ≤ cap ∧ g < W.heap.size := by
  obtain ⟨e, hr⟩ := h.row
  rcases hr.1.2 with ⟨_, hz⟩ | ⟨g, cap, cur, hv, _, hg, hn, _⟩
  · rw [List.length_map] at hz; omega
  · rw [List.length_map] at hv hn; exact ⟨g, cap, hv, hn, (Array.getElem?_eq_some_iff.1 hg).1⟩
end
/-- How many numbers of m lie below j. -/
def rk (m j : Nat) : Nat := ((List.range j).filter (m.testBit ·)).length
theorem rk_zero (m : Nat) : rk m 0 = 0 := rfl
theorem rk_succ (m j : Nat) : rk m (j + 1) = rk m j + (if m.testBit j = true then 1 else 0) := by
  unfold rk
  rw [List.range_succ, List.filter_append, List.length_append]
  by_cases h : m.testBit j = true <;> simp [h]
theorem rk_get (m j : Nat) (hj : j < 64) (hb : m.testBit j = true) : (listN m)[rk m j]? = some j := by
  unfold listN rk
  obtain ⟨d, hd⟩ : ∃ d, 64 = j + (d + 1) := ⟨63 - j, by omega⟩
  rw [hd, List.range_add, List.filter_append, List.range_succ_eq_map, List.map_cons, Nat.add_zero, List.filter_cons, if_pos hb, List.getElem?_append_right (Nat.le_refl _), Nat.sub_self]
  rfl
/-- What the law's inner loop reads of a used slot. -/
theorem live_at {l : List ISlot} (h64 : l.length ≤ 64) (j : Nat) (hj : j < l.length) (hu : l[j].used = true) : (liveL l)[rk (usedM l) j]? = some ((j : Int), (l[j].gen : Int)) := by
  have hb : (usedM l).testBit j = true := by unfold usedM; rw [testBit_wordB]; simp [List.getD, hj, hu]
  rw [liveL, List.getElem?_map, rk_get _ _ (by omega) hb]
  simp [liveOf, hj]
theorem rk_used {l : List ISlot} (j : Nat) (hj : j < l.length) : rk (usedM l) (j + 1) = rk (usedM l) j + (if l[j].used = true then 1 else 0) := by
  rw [rk_succ]
  have : (usedM l).testBit j = l[j].used := by unfold usedM; rw [testBit_wordB]; simp [List.getD, hj]
  rw [this]
theorem InvQ.cells {w W : World} {p b B0 g n cap : Nat} {la : List (Slot El)} {lm : List ISlot} (h : InvQ w p b B0 la (.slice (some ⟨g, 0, none⟩) n cap) lm W) (i : Nat) (hi : i < lm.length) :
    W.cell? ⟨g, i * 3, none⟩ = some (.int .i64 (lm[i].gen : Int)) ∧ W.cell? ⟨g, i * 3 + 1, none⟩ = some (.bool lm[i].used) ∧ W.cell? ⟨g, i * 3 + 2, none⟩ = some (.int .i64 lm[i].x) := by
  obtain ⟨q', cap', hv', _, _, hc⟩ := h.sl.get
  obtain ⟨b', off', hp', c0, c1, c2⟩ := hc i hi
  simp only [Value.slice.injEq] at hv'
  rw [← hv'.1] at hp'
  simp only [Option.some.injEq, Addr.mk.injEq, and_true] at hp'
  obtain ⟨rfl, rfl⟩ := hp'
  rw [Nat.zero_add] at c0 c1 c2
  exact ⟨c0, c1, c2⟩
set_option maxRecDepth 100000 in
set_option maxHeartbeats 4000000 in
theorem lawPlays_any (sl : Int) (v : Value) (acts : List (Int × Int × Int × Int)) (w : World) (hv0 : SlcS 4 w v (acts.map aEl)) (hT : TabAt w) :
    Calls Tryd.prog 6 #[.int .i64 sl, v] w fun e w' => e = .returned (.bool true) ∧ Keeps w w' := by
  have hkn := fun (W : World) (h : Keeps w W) => known_any W (hT.keeps h)
  by_cases hr : sl < 1 ∨ 64 < sl
  · have hnew := new_no sl w hr
    have hcase : sl < 1 ∨ (¬ sl < 1 ∧ 64 < sl) := by omega
    replace hkn := Lib.hid hkn
    obtain ⟨q, cap, rfl, hl0, hc0, _⟩ := SlcS.get hv0
    clear hr hv0 hT
    rcases hcase with h1 | ⟨h1, h2⟩
    all_goals
      go_enter Tryd.func6, Tryd.ntmps6
      go_wp2_with fail
      refine hnew.mono ?_
      rintro e w1 ⟨rfl, rfl⟩
      go_wp2_with fail
      refine (hkn.out _ (Keeps.refl _)).mono ?_
      rintro e w2 ⟨rfl, hK2⟩
      go_wp2_with fail
      go_ret
      exact ⟨rfl, hK2⟩
  · obtain ⟨N, rfl⟩ : ∃ N : Nat, sl = N := ⟨sl.toNat, by omega⟩
    have hN1 : 1 ≤ N := by omega
    have hN64 : N ≤ 64 := by omega
    have hNa : ¬ (N : Int) < 1 := by omega
    have hNb : ¬ 64 < (N : Int) := by omega
    obtain ⟨q, cap, rfl, hl0, hc0, _⟩ := SlcS.get hv0
    rw [List.length_map] at *
    have hnew := new_yes N w hN1 hN64
    have hrnew := fun (W : World) => rNew_any N W hN64
    have hz0 : (0 : Int) ≤ acts.length := by omega
    replace hT := Lib.hid hT
    replace hv0 := Lib.hid hv0
    replace hnew := Lib.hid hnew
    replace hrnew := Lib.hid hrnew
    replace hkn := Lib.hid hkn
    clear hr
    go_enter Tryd.func6, Tryd.ntmps6
    go_wp2_with fail
    refine hnew.out.mono ?_
    rintro e w1 ⟨p, b, rfl, hA, hp, hb, hK⟩
    have hI0 : InvQ w p b w1.heap.size (newL zEl N) (.slice none 0 0) [] w1 := ⟨⟨hA, hp, hb, hK⟩, ⟨0, RowS.nil _ _ _ _⟩, hA.hdr.lt, hA.buf.lt, Nat.le_refl _⟩
    generalize w1.heap.size = B0 at hI0
    replace hI0 := Lib.hid hI0
    clear hA hp hb hK hnew
    go_wp2_with fail
    refine (hrnew.out w1).mono ?_
    rintro e w2 ⟨m, rfl, hN2⟩
    have hI1 : InvQ w p b B0 (newL zEl N) m (newL 0 N) w2 := by
      obtain ⟨h1, h2, h3⟩ := hN2
      have hI := hI0.out
      refine ⟨hI.a.kept h3, ?_, hI.hp, hI.hb, Nat.le_trans hI.hB h3.size⟩
      rcases h2 with rfl | ⟨e, h2⟩
      · obtain ⟨q', cap', hv', _⟩ := Slots.get h1
        have hl := newL_len N
        simp only [Value.slice.injEq] at hv'
        have h2 : (newL (0 : Int) N).length = N := hl
        omega
      · exact ⟨e, h2.base_le hI.hB⟩
    rw [show newL zEl N = newL 0 N from rfl] at hI1
    have hlen : (newL (0 : Int) N).length = N := newL_len N
    replace hI1 := Lib.hid hI1
    clear hN2 hI0 hrnew
    go_wp2_with fail
    go_loopw [7, 8] (fun m i wr => ∃ (k : Nat) (l : List ISlot) (u : Value), k ≤ acts.length ∧ k ≤ 80 ∧ i = .int .i64 k ∧ u = m ∧ InvQ w p b B0 l u l wr) (fun _ i _ => 80 - (intOf i).toNat)
    case atStart => exact ⟨0, _, _, Nat.zero_le _, by omega, rfl, rfl, hI1.out⟩
    case round =>
      clear hI1 hlen
      obtain ⟨k, l, u, hk, hk80, rfl, rfl, hI⟩ := hrel
      by_cases hgo : k < acts.length ∧ k < 80
      · obtain ⟨hlt, h80⟩ := hgo
        have hltI := Int.ofNat_lt.2 hlt
        have h80I : (k : Int) < 80 := by omega
        obtain ⟨q', cap', hv', _, _, hcell⟩ := SlcS.get (SlcS.below hv0.out hI.a.keeps)
        obtain ⟨c, off, hp', hc1⟩ := hcell k (by rw [List.length_map]; exact hlt)
        obtain rfl : q = some ⟨c, off, none⟩ := by simp only [Value.slice.injEq] at hv'; rw [hv'.1]; exact hp'
        have z0 := hc1 0 (by decide)
        have z1 := hc1 1 (by decide)
        have z2 := hc1 2 (by decide)
        have z3 := hc1 3 (by decide)
        simp [List.getD, hlt, aEl] at z0 z1 z2 z3
        clear hcell hv' hp' hc1
        generalize acts[k].1 = kd at *
        generalize acts[k].2.1 = s at *
        generalize acts[k].2.2.1 = g at *
        generalize acts[k].2.2.2 = x at *
        obtain ⟨A0, hA0⟩ : ∃ A, A = wr.heap.size := ⟨_, rfl⟩
        replace hI := Lib.hid hI
        go_upto_region 12 with (fail)
        rw [← hA0]
        refine wp_gen (fun W => InvQ w p b B0 l u l W ∧ Blk W A0 59 [.int .i64 kd, .int .i64 s, .int .i64 g, .int .i64 x] ∧ Blk W (A0 + 1) 34 [.int .i64 s, .int .i64 g]) ⟨hI.out.kept (Keeps.trans (Keeps.alloc _ _) (Keeps.alloc _ _)), (Blk.at hA0 rfl).alloc _, Blk.at (by rw [World.size_alloc, hA0]) rfl⟩ ?_
        have hA3 : B0 ≤ A0 := by rw [hA0]; exact hI.out.hB
        have hA4 : ∀ c, u.ownBlock = some c → c < A0 := fun c hc => by obtain ⟨e, hr⟩ := hI.out.row; rw [hA0]; exact (row_own hr.1 c hc).2
        replace hA4 := Lib.hid hA4
        clear hI z0 z1 z2 z3 hA0
        rintro W ⟨hI, hA, hH⟩
        have hfd := rFind_any u l s g W hI.sl
        obtain ⟨E, hEE⟩ : ∃ E, findE l s g = E := ⟨_, rfl⟩
        rw [hEE] at hfd
        replace hEE := Lib.hid hEE
        have a0 := hA.cell 0 (by simp)
        have a1 := hA.cell 1 (by simp)
        have a2 := hA.cell 2 (by simp)
        simp only [List.getElem_cons_zero, List.getElem_cons_succ] at a0 a1 a2
        obtain ⟨K, hK4, eK⟩ := wrap_mod kd 4 (by decide)
        replace hI := Lib.hid hI
        replace hA := Lib.hid hA
        replace hH := Lib.hid hH
        replace hfd := Lib.hid hfd
        go_wp2_with fail
        refine hfd.out.mono ?_
        rintro e W' ⟨rfl, rfl⟩
        go_upto_block 2 with fail
        go_cut [7] (fun uu wx => ∃ (l : List ISlot), InvQ w p b B0 l uu l wx)
        case first =>
          have hok := hI.out.a.ar.ok
          have hl64 := hI.out.a.ar.hi
          have h0 := hH.out.cell 0 (by simp)
          have h1 := hH.out.cell 1 (by simp)
          have a3 := hA.out.cell 3 (by simp)
          simp only [List.getElem_cons_zero, List.getElem_cons_succ] at h0 h1 a3
          have hKc : K = 0 ∨ K = 1 ∨ K = 2 ∨ K = 3 := by omega
          have hAne : A0 ≠ p ∧ A0 ≠ b ∧ A0 + 1 ≠ p ∧ A0 + 1 ≠ b := by have := hI.out.hp; have := hI.out.hb; omega
          rcases hKc with rfl | rfl | rfl | rfl
          · as_aux_lemma =>
            have hrp := rPut_any u l x W hI.out.sl hl64
            cases ho : openAt l 0 with
            | none =>
              rw [ho] at hrp
              simp only [Option.getD_none, Option.bind_none, if_true] at hrp
              have hput : putL l x = l := by unfold putL; rw [ho]
              rw [hput] at hrp
              have hpf : ∀ (W' : World) (u' : Value), InvQ w p b B0 l u' l W' → Calls Tryd.prog 15 #[.pointer (some ⟨p, 0, none⟩), .int .i64 x] W' fun e w' => e = .returned (.tuple #[.agg #[.int .i64 0, .int .i64 0], .int .i64 3]) ∧ Keeps W' w' := fun W' u' h => put_full h.a.ar (hT.out.keeps h.a.keeps) ho x
              rw [show ((0 : Nat) : Int) = 0 from rfl] at hrp
              replace hrp := Lib.hid hrp
              replace hpf := Lib.hid hpf
              clear ho hput hok hl64 h0 h1
              go_wp2_with fail
              refine hrp.out.mono ?_
              rintro e w4 ⟨u2, rfl, hN⟩
              have hI3 := hI.out.told hN
              have x3 := (hN.2.2.cell (p := ⟨A0, 3, none⟩) (cell_lt a3)).trans a3
              have hp4 := hpf.out w4 u2 hI3
              replace hI3 := Lib.hid hI3
              replace hp4 := Lib.hid hp4
              clear hN hI hrp hpf a0 a1 a2 a3 hA hH
              go_wp2_with fail
              refine hp4.out.mono ?_
              rintro e w5 ⟨rfl, hK5⟩
              have hI5 := hI3.out.kept (Keeps.trans hK5 (Keeps.alloc w5 (.cells #[.int .i64 0, .int .i64 0] 34)))
              replace hI5 := Lib.hid hI5
              clear hI3 hK5 hp4
              go_wp2_with fail
              go_meet
              exact ⟨l, hI5.out⟩
            | some i =>
              have hi := (openAt_some ho).2.1
              simp only [Nat.sub_zero] at hi
              rw [ho] at hrp
              simp only [Option.getD_some, Option.bind_some, reduceCtorEq, if_false, List.getElem?_eq_getElem hi, Option.map_some] at hrp
              have hpf : ∀ (W' : World) (u' : Value) (lm : List ISlot), InvQ w p b B0 l u' lm W' → Calls Tryd.prog 15 #[.pointer (some ⟨p, 0, none⟩), .int .i64 x] W' fun e w' => e = .returned (.tuple #[.agg #[.int .i64 (i : Int), .int .i64 (l[i].gen : Int)], .int .i64 0]) ∧ InvQ w p b B0 (putL l x) u' lm w' := fun W' u' lm h => by
                refine (put_ok h.a.ar (hT.out.keeps h.a.keeps) i ho x).mono ?_
                rintro e w5 ⟨he, hA5, hC5⟩
                rw [List.getElem?_eq_getElem hi] at he
                exact ⟨he, h.ar hA5 hC5⟩
              generalize l[i].gen = G at *
              generalize putL l x = l2 at *
              replace hrp := Lib.hid hrp
              replace hpf := Lib.hid hpf
              clear ho hok hl64 h0 h1 hi
              go_wp2_with fail
              refine hrp.out.mono ?_
              rintro e w4 ⟨u2, rfl, hN⟩
              have hI3 := hI.out.told hN
              have x3 := (hN.2.2.cell (p := ⟨A0, 3, none⟩) (cell_lt a3)).trans a3
              have hp4 := hpf.out w4 u2 l2 hI3
              replace hp4 := Lib.hid hp4
              clear hN hI hrp hpf a0 a1 a2 a3 hA hH hI3
              go_wp2_with fail
              refine hp4.out.mono ?_
              rintro e w5 ⟨rfl, hI5⟩
              have hI6 := hI5.kept (Keeps.alloc w5 (.cells #[.int .i64 (i : Int), .int .i64 (G : Int)] 34))
              replace hI6 := Lib.hid hI6
              clear hI5 hp4
              go_wp2_with fail
              go_meet
              exact ⟨l2, hI6.out⟩
          · as_aux_lemma =>
            have hge := fun (W' : World) (h : InvQ w p b B0 l u l W') => get_any h.a.ar s g
            rw [hEE.out] at hge
            have hA2 := hA.out
            by_cases hE : E = 0
            · obtain ⟨i, rfl, hi, hu, hgg⟩ := findE_yes (hEE.out.trans hE)
              obtain ⟨gu, capu, rfl, hcu, hgl⟩ := hI.out.slice (by omega)
              have hx : getX l (i : Int) g = l[i].x := by unfold getX; rw [if_pos (hEE.out.trans hE)]; simp [hi]
              rw [hx] at hge
              have e1 : (E == 0) = true := by simpa using hE
              have e2 : (E != 0) = false := by simpa using hE
              have hcx : ∀ (W' : World), InvQ w p b B0 l (.slice (some ⟨gu, 0, none⟩) l.length capu) l W' → W'.cell? ⟨gu, i * 3 + 2, none⟩ = some (.int .i64 l[i].x) := fun W' h => by
                obtain ⟨q', cap', hv', _, _, hc⟩ := h.sl.get
                obtain ⟨b', off', hp', _, _, c2⟩ := hc i hi
                simp only [Value.slice.injEq] at hv'
                rw [← hv'.1] at hp'
                simp only [Option.some.injEq, Addr.mk.injEq, and_true] at hp'
                obtain ⟨rfl, rfl⟩ := hp'
                rwa [Nat.zero_add] at c2
              have hiI : (i : Int) < (l.length : Int) := by omega
              have hi0 : (0 : Int) ≤ (i : Int) := by omega
              generalize l[i].x = xi at *
              replace hge := Lib.hid (hge W hI.out)
              replace hcx := Lib.hid hcx
              replace hE := Lib.hid hE
              replace hx := Lib.hid hx
              replace hgg := Lib.hid hgg
              clear hok hl64 hu
              go_wp2_with fail
              refine hge.out.mono ?_
              rintro e w4 ⟨rfl, hK4⟩
              have hI4 := hI.out.kept hK4
              have c2 := hcx.out w4 hI4
              have x1 := (hK4.cell (p := ⟨A0, 1, none⟩) (cell_lt a1)).trans a1
              replace hI4 := Lib.hid hI4
              clear hK4 hI hge hcx a0 a1 a2 a3 hA hA2 hH h0 h1
              go_wp2_with fail
              go_meet
              exact ⟨l, hI4.out⟩
            · have hx : getX l s g = 0 := by unfold getX; rw [if_neg (by rw [hEE.out]; exact hE)]; rfl
              rw [hx] at hge
              have e1 : (E == 0) = false := by simpa using hE
              have e2 : (E != 0) = true := by simpa using hE
              replace hge := Lib.hid (hge W hI.out)
              replace hE := Lib.hid hE
              replace hx := Lib.hid hx
              clear hok hl64
              go_wp2_with fail
              refine hge.out.mono ?_
              rintro e w4 ⟨rfl, hK4⟩
              have hI4 := hI.out.kept hK4
              replace hI4 := Lib.hid hI4
              clear hK4 hI hge a0 a1 a2 a3 hA hA2 hH h0 h1
              go_wp2_with fail
              go_meet
              exact ⟨l, hI4.out⟩
          · as_aux_lemma =>
            have hse : Calls Tryd.prog 25 #[.pointer (some ⟨p, 0, none⟩), .agg #[.int .i64 s, .int .i64 g], .int .i64 x] W fun e w' => e = .returned (.int .i64 E) ∧ InvQ w p b B0 (setX l s g x) u l w' ∧ Chg (fun k => k = p ∨ k = b) W w' := by
              refine (set_any hI.out.a.ar s g x).mono ?_
              rintro e w5 ⟨he, hA5, hC5⟩
              exact ⟨by rw [he, hEE.out], hI.out.ar hA5 hC5, hC5⟩
            by_cases hE : E = 0
            · obtain ⟨i, rfl, hi, hu, hgg⟩ := findE_yes (hEE.out.trans hE)
              obtain ⟨gu, capu, rfl, hcu, hgl⟩ := hI.out.slice (by omega)
              have hx : setX l (i : Int) g x = l.set i ⟨l[i].gen, l[i].used, x⟩ := by unfold setX; rw [if_pos (hEE.out.trans hE), Int.toNat_natCast, modify_set l i hi]
              rw [hx] at hse
              have e1 : (E == 0) = true := by simpa using hE
              have hwr : ∀ (W' : World), InvQ w p b B0 (l.set i ⟨l[i].gen, l[i].used, x⟩) (.slice (some ⟨gu, 0, none⟩) l.length capu) l W' → InvQ w p b B0 (l.set i ⟨l[i].gen, l[i].used, x⟩) (.slice (some ⟨gu, 0, none⟩) l.length capu) (l.set i ⟨l[i].gen, l[i].used, x⟩) (W'.setCell ⟨gu, i * 3 + 2, none⟩ (.int .i64 x)) := fun W' h => h.wrote i hi x
              have hcx : ∀ (W' : World) (la : List (Slot El)), InvQ w p b B0 la (.slice (some ⟨gu, 0, none⟩) l.length capu) l W' → W'.cell? ⟨gu, i * 3 + 2, none⟩ = some (.int .i64 l[i].x) ∧ W'.frozen? ⟨gu, i * 3 + 2, none⟩ = false := fun W' la h => by
                refine ⟨?_, by obtain ⟨e, hr⟩ := h.row; exact hr.frozen _⟩
                obtain ⟨q', cap', hv', _, _, hc⟩ := h.sl.get
                obtain ⟨b', off', hp', _, _, c2⟩ := hc i hi
                simp only [Value.slice.injEq] at hv'
                rw [← hv'.1] at hp'
                simp only [Option.some.injEq, Addr.mk.injEq, and_true] at hp'
                obtain ⟨rfl, rfl⟩ := hp'
                rwa [Nat.zero_add] at c2
              have hiI : (i : Int) < (l.length : Int) := by omega
              have hi0 : (0 : Int) ≤ (i : Int) := by omega
              generalize l.set i ⟨l[i].gen, l[i].used, x⟩ = l2 at *
              generalize l[i].x = xi at *
              replace hse := Lib.hid hse
              replace hcx := Lib.hid hcx
              replace hwr := Lib.hid hwr
              replace hE := Lib.hid hE
              replace hx := Lib.hid hx
              replace hgg := Lib.hid hgg
              clear hok hl64 hu
              go_wp2_with fail
              refine hse.out.mono ?_
              rintro e w4 ⟨rfl, hI4, hC4⟩
              obtain ⟨c2, f2⟩ := hcx.out w4 _ hI4
              have hI5 := hwr.out w4 hI4
              have x1 := (World.cell?_of_block (a := ⟨A0, 1, none⟩) (hC4.block A0 (cell_lt a1) (by omega))).trans a1
              have x3 := (World.cell?_of_block (a := ⟨A0, 3, none⟩) (hC4.block A0 (cell_lt a3) (by omega))).trans a3
              replace hI5 := Lib.hid hI5
              clear hC4 hI4 hI hse hcx hwr a0 a1 a2 a3 hA hH h0 h1
              go_wp2_with fail
              go_meet
              exact ⟨l2, hI5.out⟩
            · have hx : setX l s g x = l := by unfold setX; rw [if_neg (by rw [hEE.out]; exact hE)]
              rw [hx] at hse
              have e1 : (E == 0) = false := by simpa using hE
              replace hse := Lib.hid hse
              replace hE := Lib.hid hE
              replace hx := Lib.hid hx
              clear hok hl64
              go_wp2_with fail
              refine hse.out.mono ?_
              rintro e w4 ⟨rfl, hI4, _⟩
              replace hI4 := Lib.hid hI4
              clear hI hse a0 a1 a2 a3 hA hH h0 h1
              go_wp2_with fail
              go_meet
              exact ⟨l, hI4.out⟩
          · as_aux_lemma =>
            have hrf := rFree_any u l s g W hI.out.sl hl64 hok
            have hfa : freeAll l [(s, g)] = (freeL 0 l s g, findE l s g) := by
              rw [freeAll_cons]
              by_cases hE : findE l s g = 0
              · rw [if_pos hE, hE]; rfl
              · rw [if_neg hE]; unfold freeL; rw [if_neg hE]
            have hfr : ∀ (W' : World) (u' : Value) (lm : List ISlot), InvQ w p b B0 l u' lm W' → Calls Tryd.prog 17 #[.pointer (some ⟨p, 0, none⟩), .slice (some ⟨W'.heap.size, 0, none⟩) 1 1] (W'.alloc (.cells #[.int .i64 s, .int .i64 g] 34)) fun e w' => e = .returned (.int .i64 (findE l s g)) ∧ InvQ w p b B0 (freeL 0 l s g) u' lm w' := fun W' u' lm h => by
              have h2 := h.kept (Keeps.alloc W' (.cells #[.int .i64 s, .int .i64 g] 34))
              refine (free_any h2.a.ar [(s, g)] _ (slH (Blk.new W' 34 (hEl (s, g)))) (fun c hc _ => ?_)).mono ?_
              · have := h.a.ne
                simp [Value.ownBlock] at hc
                omega
              · rintro e w5 ⟨he, hA5, hC5⟩
                rw [hfa] at he hA5
                exact ⟨he, h2.ar hA5 hC5⟩
            rw [hEE.out] at hrf hfa
            simp only [hEE.out] at hfr
            generalize freeL 0 l s g = l2 at *
            replace hrf := Lib.hid hrf
            replace hfr := Lib.hid hfr
            replace hfa := Lib.hid hfa
            clear hok hl64
            go_wp2_with fail
            refine hrf.out.mono ?_
            rintro e w4 ⟨u2, rfl, hN⟩
            have hI4 := hI.out.told hN
            have y0 := (hN.2.2.cell (p := ⟨A0 + 1, 0, none⟩) (cell_lt h0)).trans h0
            have y1 := (hN.2.2.cell (p := ⟨A0 + 1, 1, none⟩) (cell_lt h1)).trans h1
            have hf4 := hfr.out w4 u2 l2 hI4
            have x1 := (hN.2.2.cell (p := ⟨A0, 1, none⟩) (cell_lt a1)).trans a1
            replace hf4 := Lib.hid hf4
            clear hN hI hrf hfr a0 a1 a2 a3 hA hH hI4 h0 h1
            go_wp2_with fail
            refine hf4.out.mono ?_
            rintro e w5 ⟨rfl, hI5⟩
            replace hI5 := Lib.hid hI5
            clear hf4
            go_wp2_with fail
            go_meet
            exact ⟨l2, hI5.out⟩
        case rest =>
          clear hI hA hH hfd a0 a1 a2 eK
          obtain ⟨l2, hI⟩ := hcut
          have hlv := fun (W : World) (h : InvQ w p b B0 l2 u7 l2 W) => live_any h.a.ar (hT.out.keeps h.a.keeps)
          have hln := fun (W : World) (h : InvQ w p b B0 l2 u7 l2 W) => len_yes h.a.ar
          have hrm := fun (W : World) (h : InvQ w p b B0 l2 u7 l2 W) => room_yes h.a.ar
          have hct := rCount_any u7 l2 wc hI.sl
          replace hlv := Lib.hid hlv
          replace hln := Lib.hid hln
          replace hrm := Lib.hid hrm
          replace hct := Lib.hid hct
          replace hI := Lib.hid hI
          have hkl : (l2.filter (·.used)).length = (liveL l2).length := by
            rw [liveL, List.length_map]
            have hl := listN_len (usedM l2)
            have e : lenN (usedM l2) = (l2.filter (·.used)).length := by
              unfold usedM; rw [lenN_wordB _ (by simpa using hI.out.a.ar.hi), List.filter_map, List.length_map]; rfl
            rw [← e]; rfl
          replace hkl := Lib.hid hkl
          have hlI : (0 : Int) ≤ (l2.filter (·.used)).length := by omega
          generalize hnu : (l2.filter (·.used)).length = nu at *
          generalize (l2.filter (·.open)).length = no at *
          replace hnu := Lib.hid hnu
          clear hA3 hA4
          go_wp2_with fail
          refine hct.out.mono ?_
          rintro e w4 ⟨rfl, rfl⟩
          have hlv4 := hlv.out wc hI.out
          replace hlv4 := Lib.hid hlv4
          clear hct hlv
          go_wp2_with fail
          refine hlv4.out.mono ?_
          rintro e w5 ⟨lv, rfl, hH5, hK5⟩
          have hI5 := hI.out.kept hK5
          have hln5 := hln.out w5 hI5
          have hrm5 := hrm.out w5 hI5
          have hlvs := hH5.slcs
          obtain ⟨q5, cap5, hq5⟩ := hH5.any
          rw [List.length_map, ← hkl.out] at hq5
          subst hq5
          replace hI5 := Lib.hid hI5
          replace hln5 := Lib.hid hln5
          replace hrm5 := Lib.hid hrm5
          replace hlvs := Lib.hid hlvs
          clear hI hlv4 hH5 hK5 hln hrm
          go_wp2_with fail
          refine hln5.out.mono ?_
          rintro e w6 ⟨rfl, rfl⟩
          go_wp2_with fail
          refine hrm5.out.mono ?_
          rintro e w6 ⟨rfl, rfl⟩
          clear hln5 hrm5
          go_wp2_with fail
          have hlo := hI5.out.a.ar.lo
          have hhi := hI5.out.a.ar.hi
          obtain ⟨gu, capu, rfl, hcu, _⟩ := hI5.out.slice (by omega)
          obtain ⟨wo, rfl⟩ : ∃ wo : World, wo = wr := ⟨_, rfl⟩
          go_loopw [25, 26] (fun t j wr => ∃ (n : Nat), n ≤ l2.length ∧ j = .int .i64 n ∧ t = .int .i64 (rk (usedM l2) n : Int) ∧ InvQ w p b B0 l2 (.slice (some ⟨gu, 0, none⟩) l2.length capu) l2 wr ∧ SlcS 2 wr (.slice q5 nu cap5) ((liveL l2).map hEl)) (fun _ j _ => l2.length - (intOf j).toNat)
          case atStart => exact ⟨0, Nat.zero_le _, rfl, rfl, hI5.out, hlvs.out⟩
          case round =>
            clear hI5 hlvs
            obtain ⟨j, hj, rfl, rfl, hI, hL⟩ := hrel
            have hjl : j < l2.length ∨ j = l2.length := by omega
            rcases hjl with hlt2 | rfl
            · have hltI2 := Int.ofNat_lt.2 hlt2
              obtain ⟨m0, m1, m2⟩ := hI.cells j hlt2
              have hnext := rk_used (l := l2) j hlt2
              by_cases hu : l2[j].used = true
              · as_aux_lemma =>
                have hla := live_at (l := l2) hhi j hlt2 hu
                obtain ⟨hrl, hre⟩ := List.getElem?_eq_some_iff.1 hla
                obtain ⟨q', cap', hv', hl', hc', hcell⟩ := SlcS.get hL
                obtain ⟨c5, off5, hp', hc5⟩ := hcell (rk (usedM l2) j) (by rw [List.length_map]; exact hrl)
                obtain rfl : q5 = some ⟨c5, off5, none⟩ := by simp only [Value.slice.injEq] at hv'; rw [hv'.1]; exact hp'
                have y0 := hc5 0 (by decide)
                have y1 := hc5 1 (by decide)
                simp only [List.getD, List.getElem?_map, hla, Option.map_some, Option.getD_some, hEl, Nat.add_zero] at y0 y1
                simp at y0 y1
                have hcap5 : nu ≤ cap5 ∧ cap5 ≤ 9223372036854775807 := by
                  simp only [Value.slice.injEq] at hv'
                  omega
                have htn : rk (usedM l2) j < nu := by rw [hkl.out]; exact hrl
                have htI := Int.ofNat_lt.2 htn
                have hge := fun (W : World) (h : InvQ w p b B0 l2 (.slice (some ⟨gu, 0, none⟩) l2.length capu) l2 W) => get_any h.a.ar (j : Int) (l2[j].gen : Int)
                have hE0 : findE l2 (j : Int) (l2[j].gen : Int) = 0 := by rw [findE_of j hlt2]; simp [hu]
                have hgx : getX l2 (j : Int) (l2[j].gen : Int) = l2[j].x := by unfold getX; rw [if_pos hE0]; simp [hlt2]
                rw [hE0, hgx] at hge
                rw [if_pos hu] at hnext
                have hmx := fun (W : World) (h : InvQ w p b B0 l2 (.slice (some ⟨gu, 0, none⟩) l2.length capu) l2 W) => (h.cells j hlt2).2.2
                rw [hu] at m1
                have ht0 : (0 : Int) ≤ (rk (usedM l2) j : Int) := by omega
                have hj0 : (0 : Int) ≤ (j : Int) := by omega
                generalize l2[j].gen = G at *
                generalize l2[j].x = X at *
                generalize hrk : rk (usedM l2) j = t at *
                replace hnext := Lib.hid hnext
                replace hrk := Lib.hid hrk
                replace hge := Lib.hid hge
                replace hmx := Lib.hid hmx
                replace hI := Lib.hid hI
                replace hL := Lib.hid hL
                clear hla hrl hre hcell hv' hp' hc5 hE0 hgx hu hl' hc'
                go_wp2_with fail
                go_quiet (fail)
                rename_i nq
                have hIn := hI.out.kept (Keeps.drewN wr nq)
                have hLn := SlcS.below hL.out (Keeps.drewN wr nq)
                have hgn := hge.out _ hIn
                replace hIn := Lib.hid hIn
                replace hLn := Lib.hid hLn
                replace hgn := Lib.hid hgn
                clear hI hL hge
                go_wp2_with fail
                refine hgn.out.mono ?_
                rintro e W7 ⟨rfl, hK7⟩
                have hI7 := hIn.out.kept hK7
                have hL7 := SlcS.below hLn.out hK7
                have m2' := hmx.out W7 hI7
                replace hI7 := Lib.hid hI7
                replace hL7 := Lib.hid hL7
                clear hK7 hIn hLn hgn hmx m0 m1 m2 y0 y1
                go_wp2_with fail
                go_roundw
                case rel => exact ⟨j + 1, by omega, by go_num, by rw [hnext.out]; go_num, hI7.out, hL7.out⟩
                case measure => (simp [intOf]; try omega)
              · as_aux_lemma =>
                rw [if_neg hu, Nat.add_zero] at hnext
                have hu' : l2[j].used = false := by simpa using hu
                rw [hu'] at m1
                replace hnext := Lib.hid hnext
                replace hI := Lib.hid hI
                replace hL := Lib.hid hL
                clear hu hu'
                go_wp2_with fail
                go_roundw
                case rel => exact ⟨j + 1, by omega, by go_num, by rw [hnext.out]; rfl, hI.out, hL.out⟩
                case measure => (simp [intOf]; try omega)
            · as_aux_lemma =>
              replace hI := Lib.hid hI
              clear hL
              go_wp2_with fail
              go_roundw
              case rel => exact ⟨k + 1, l2, _, by omega, by omega, by go_num, rfl, hI.out⟩
              case measure => (simp [intOf]; try omega)
      · as_aux_lemma =>
        have hcase : (¬ (k : Int) < (acts.length : Int)) ∨ ((k : Int) < (acts.length : Int) ∧ ¬ (k : Int) < 80) := by omega
        clear hgo hv0
        replace hI := Lib.hid hI
        rcases hcase with h1 | ⟨h1, h2⟩
        all_goals
          go_wp2_with fail
          refine (hkn.out _ hI.out.a.keeps).mono ?_
          rintro e w2 ⟨rfl, hK2⟩
          go_wp2_with fail
          go_ret
          exact ⟨rfl, Keeps.trans hI.out.a.keeps hK2⟩
end Go.Proofs.YtanidaepfepppaaDoor.ArI
