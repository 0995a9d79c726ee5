/- What goes into a ring of things comes out, whole, in order, once: the walk. -/
import Derived.Test.YtkchcckdfbpdmaaLaw02
import Derived.Test.YtkchcckdfbpdmaaRing2T
import Derived.Test.YtkchcckdfbpdmaaModn
namespace Go.Proofs.Ytkchcckdfbpdmaa.RgT
open Go.RowKit Go.Proofs.Ytkchcckdfbpdmaa

/-- What holds while the law goes: the ring, the list of all that went in, and they are apart. -/
structure InvT (w W : World) (p b room B0 : Nat) (kv : Value) (K : List El) (o : Nat) : Prop where
  ring : ∃ hd, RingAt W p b room hd (K.drop o)
  kept : RowS 2 B0 30 W kv (K.map xc)
  keeps : Keeps w W
  hp : w.heap.size ≤ p
  hb : w.heap.size ≤ b
  hpB : p < B0
  hbB : b < B0
  hB : B0 ≤ W.heap.size
  ho : o ≤ K.length
section
variable {w W W' : World} {p b room B0 : Nat} {kv kv' : Value} {K : List El} {o : Nat}
theorem RowS.keeps {sz base : Nat} {e : TypeId} {els : List (List Value)} (h : RowS sz base e W kv els) (hk : Keeps W W') : RowS sz base e W' kv els := by
  refine ⟨⟨h.1.1, ?_⟩, h.2⟩
  rcases h.1.2 with h0 | ⟨g, cap, cur, hv, hb, hg, hr⟩
  · exact .inl h0
  · exact .inr ⟨g, cap, cur, hv, hb, (hk.block g ((Array.getElem?_eq_some_iff.1 hg).1)).trans hg, hr⟩
theorem InvT.kept' (h : InvT w W p b room B0 kv K o) (hk : Keeps W W') : InvT w W' p b room B0 kv K o :=
  ⟨by obtain ⟨hd, hR⟩ := h.ring; exact ⟨hd, hR.keeps hk⟩, RowS.keeps h.kept hk, Keeps.trans h.keeps hk, h.hp, h.hb, h.hpB, h.hbB, Nat.le_trans h.hB hk.size, h.ho⟩
/-- The ring has turned: K and o are as the list and the number say now. -/
theorem InvT.turned {K' : List El} {o' hd : Nat} (h : InvT w W p b room B0 kv K o) (hR : RingAt W' p b room hd (K'.drop o')) (hC : Chg (fun k => k = p ∨ k = b) W W') (hr : RowS 2 B0 30 W kv (K'.map xc)) (ho : o' ≤ K'.length) : InvT w W' p b room B0 kv K' o' := by
  have hp := h.hp
  have hb := h.hb
  have hpB := h.hpB
  have hbB := h.hbB
  exact ⟨⟨hd, hR⟩, hr.chg hC (fun c hc hs => by omega), Chg.keeps hC h.keeps (fun k hk hs => by omega), h.hp, h.hb, h.hpB, h.hbB, Nat.le_trans h.hB hC.size, ho⟩
/-- A thing goes in, where there is room. -/
theorem InvT.push (h : InvT w W p b room B0 kv K o) (hlt : (K.drop o).length < room) (x : El) (sb : Nat) (hsb : sb = W.heap.size) :
    Calls Try.prog 8 #[.pointer (some ⟨p, 0, none⟩), .slice (some ⟨sb, 0, none⟩) 1 1] (W.alloc (.cells (xc x).toArray 30)) fun e W1 => e = .returned (.int .i64 1) ∧
      (∃ hd, RingAt W1 p b room hd ((K ++ [x]).drop o)) ∧ Chg (fun k => k = p ∨ k = b) W W1 := by
  obtain ⟨hd, hR⟩ := h.ring
  refine (push1_any hR hlt x sb hsb rfl).mono ?_
  rintro e W1 ⟨he, hR1, hC⟩
  refine ⟨he, ⟨hd, ?_⟩, hC⟩
  rw [List.drop_append_of_le_length h.ho]; exact hR1
theorem InvT.full (h : InvT w W p b room B0 kv K o) (hlt : (K.drop o).length = room) (x : El) (sb : Nat) (hsb : sb = W.heap.size) :
    Calls Try.prog 8 #[.pointer (some ⟨p, 0, none⟩), .slice (some ⟨sb, 0, none⟩) 1 1] (W.alloc (.cells (xc x).toArray 30)) fun e W1 => e = .returned (.int .i64 0) ∧ InvT w W1 p b room B0 kv K o := by
  obtain ⟨hd, hR⟩ := h.ring
  refine (push0_any hR hlt x sb hsb rfl).mono ?_
  rintro e W1 ⟨he, hR1, hC⟩
  exact ⟨he, h.turned hR1 hC h.kept h.ho⟩
theorem InvT.pop (h : InvT w W p b room B0 kv K o) (hlt : o < K.length) :
    Calls Try.prog 9 #[.pointer (some ⟨p, 0, none⟩)] W fun e W1 => e = .returned (.tuple #[.agg #[.int .i64 K[o].1, .string K[o].2], .bool true]) ∧ InvT w W1 p b room B0 kv K (o + 1) := by
  obtain ⟨hd, hR⟩ := h.ring
  rw [List.drop_eq_getElem_cons hlt] at hR
  refine (pop_yes hR).mono ?_
  rintro e W1 ⟨he, hR1, hC⟩
  exact ⟨he, h.turned hR1 hC h.kept hlt⟩
theorem InvT.empty (h : InvT w W p b room B0 kv K o) (hlt : o = K.length) :
    Calls Try.prog 9 #[.pointer (some ⟨p, 0, none⟩)] W fun e W1 => e = .returned (.tuple #[.agg #[.int .i64 0, .string ByteArray.empty], .bool false]) ∧ InvT w W1 p b room B0 kv K o := by
  obtain ⟨hd, hR⟩ := h.ring
  rw [List.drop_eq_nil_of_le (by omega)] at hR
  refine (pop_no _ W (.inr ⟨p, b, room, hd, rfl, hR⟩)).mono ?_
  rintro e W1 ⟨he, hk⟩
  exact ⟨he, h.kept' hk⟩
theorem InvT.len (h : InvT w W p b room B0 kv K o) : Calls Try.prog 11 #[.pointer (some ⟨p, 0, none⟩)] W fun e W1 => e = .returned (.int .i64 ((K.length - o : Nat) : Int)) ∧ W = W1 := by
  obtain ⟨hd, hR⟩ := h.ring
  have := len_any hR
  rwa [List.length_drop] at this
/-- The cells of the list. -/
theorem InvT.cells (h : InvT w W p b room B0 kv K o) (j : Nat) (hj : j < K.length) : ∃ g cap, kv = .slice (some ⟨g, 0, none⟩) K.length cap ∧ K.length ≤ cap ∧ cap ≤ 9223372036854775807 ∧ W.cell? ⟨g, j * 2, none⟩ = some (.int .i64 K[j].1) ∧ W.cell? ⟨g, j * 2 + 1, none⟩ = some (.string K[j].2) := by
  obtain ⟨g, cap, rfl, hg⟩ := h.kept.slice (by simp only [List.length_map]; omega)
  obtain ⟨q, cap', hv, hl, hc, hcell⟩ := SlcS.get h.kept.slcs
  rw [List.length_map] at hv hl ⊢
  obtain ⟨rfl, rfl⟩ : some (⟨g, 0, none⟩ : Addr) = q ∧ cap = cap' := by simpa using hv
  obtain ⟨c, off, he, hk⟩ := hcell j (by simpa using hj)
  obtain ⟨rfl, rfl⟩ : g = c ∧ off = 0 := by simp at he; exact ⟨he.1, he.2.symm⟩
  have h0 := hk 0 (by decide)
  have h1 := hk 1 (by decide)
  simp [List.getD, hj, xc] at h0 h1
  exact ⟨g, cap, rfl, hl, hc, h0, h1⟩
end
theorem InvT.cells2 {w W : World} {p b room B0 g n cap : Nat} {K : List El} {o : Nat} (h : InvT w W p b room B0 (.slice (some ⟨g, 0, none⟩) n cap) K o) (j : Nat) (hj : j < K.length) : W.cell? ⟨g, j * 2, none⟩ = some (.int .i64 K[j].1) ∧ W.cell? ⟨g, j * 2 + 1, none⟩ = some (.string K[j].2) := by
  obtain ⟨g', cap', hv, _, _, h0, h1⟩ := h.cells j hj
  simp only [Value.slice.injEq, Option.some.injEq, Addr.mk.injEq, and_true] at hv
  obtain ⟨rfl, _, _⟩ := hv
  exact ⟨h0, h1⟩
theorem boolCell {w W : World} {q : Option Addr} {n cap : Nat} {bs : List Bool} (h : Slc w (.slice q n cap) (bs.map .bool)) (hk : Keeps w W) (k : Nat) (hkb : k < bs.length) : ∃ c off, q = some ⟨c, off, none⟩ ∧ W.cell? ⟨c, off + k, none⟩ = some (.bool bs[k]) := by
  obtain ⟨q', cap', hv, _, _, _, hcell⟩ := Slc.below h hk
  obtain ⟨c, off, hq, hc⟩ := hcell k (by simpa using hkb)
  refine ⟨c, off, ?_, by rw [hc]; simp [List.getD, hkb]⟩
  simp only [Value.slice.injEq] at hv
  rw [hv.1, hq]
theorem chgCell {S : Nat → Prop} {W W' : World} {p : Addr} (h : Chg S W W') (hlt : p.block < W.heap.size) (hn : ¬ S p.block) : W'.cell? p = W.cell? p := World.cell?_of_block (h.block p.block hlt hn)
set_option maxRecDepth 100000 in
set_option maxHeartbeats 4000000 in
theorem lawThings_any (r : Int) (v u : Value) (zs : List El) (bs : List Bool) (w : World) (hv : SlcS 2 w v (zs.map xc)) (hu : Slc w u (bs.map .bool)) :
    Calls Try.prog 3 #[.int .i64 r, v, u] w fun e w' => e = .returned (.bool true) ∧ Keeps w w' := by
  obtain ⟨N8, hN8, e1⟩ := wrap_mod r 256 (by decide)
  obtain ⟨N, hN⟩ : ∃ N : Nat, N = 1 + N8 := ⟨_, rfl⟩
  have hN1 : 1 ≤ N := by omega
  have hN2 : N ≤ 256 := by omega
  obtain ⟨q, cap, rfl, hl0, hc0, _⟩ := srcCell hv
  have hu0 := hu
  obtain ⟨q2, cap2, rfl, hl2, hc2, hn2, hcell2⟩ := hu
  clear hcell2 hn2
  rw [List.length_map] at hl2
  unfold maxLen at hc2
  have hnew := new_yes N w hN1 hN2
  rw [show ((N : Nat) : Int) = 1 + (N8 : Int) by omega] at hnew
  have hzI : (0 : Int) ≤ zs.length := by omega
  have hbI : (0 : Int) ≤ bs.length := by omega
  replace hnew := Lib.hid hnew
  replace hv := Lib.hid hv
  rw [List.length_map] at hu0
  replace hu0 := Lib.hid hu0
  replace hN := Lib.hid hN
  rw [List.length_map]
  go_enter Try.func3, Try.ntmps3
  go_wp2_with fail
  refine hnew.out.mono ?_
  rintro e w1 ⟨rfl, hR, hK⟩
  obtain ⟨p, hp⟩ : ∃ p, p = w.heap.size + 1 := ⟨_, rfl⟩
  obtain ⟨b, hb⟩ : ∃ b, b = w.heap.size := ⟨_, rfl⟩
  have hlt := hR.lt
  have hI0 : InvT w w1 p b N w1.heap.size (.slice none 0 0) [] 0 := by
    rw [hp, hb]; exact ⟨⟨0, hR⟩, RowS.nil _ _ _ _, hK, by omega, by omega, hlt.1, hlt.2, Nat.le_refl _, Nat.le_refl _⟩
  generalize w1.heap.size = B0 at hI0
  rw [← hp]
  replace hI0 := Lib.hid hI0
  clear hp hb hR hK hnew hlt
  go_wp2_with fail
  go_loopw [9, 10, 11, 12] (fun n o kv i wr => ∃ (k : Nat) (K : List El) (m : Nat) (kv' : Value), k ≤ 80 ∧ (k ≤ zs.length) ∧ i = .int .i64 k ∧ n = .int .i64 (K.length : Int) ∧ o = .int .i64 (m : Int) ∧ kv' = kv ∧ K.length ≤ k ∧ K.length ≤ m + N ∧ InvT w wr p b N B0 kv' K m) (fun _ _ _ i _ => 80 - (intOf i).toNat)
  case atStart => exact ⟨0, [], 0, _, by omega, by omega, rfl, rfl, rfl, rfl, Nat.le_refl _, by simp, hI0.out⟩
  case round =>
    clear hI0
    obtain ⟨k, K, m, kv', hk, hk2, rfl, rfl, rfl, rfl, hKk, hKm, hI⟩ := hrel
    have hm := hI.ho
    by_cases hgo : k < zs.length ∧ k < 80
    · obtain ⟨hlt, h80⟩ := hgo
      have hltI := Int.ofNat_lt.2 hlt
      have h80I : (k : Int) < 80 := by omega
      obtain ⟨q', cap', hv', _, _, hcell⟩ := srcCell (SlcS.below hv.out hI.keeps)
      obtain ⟨c, off, hp', hc1⟩ := hcell k hlt
      obtain rfl : q = some ⟨c, off, none⟩ := by simp only [Value.slice.injEq] at hv'; rw [hv'.1]; exact hp'
      have z0 := hc1 0 (by decide)
      have z1 := hc1 1 (by decide)
      simp only [xc, Nat.add_zero, List.getD_cons_zero, List.getD_cons_succ] at z0 z1
      clear hcell hv' hp' hc1
      generalize zs[k] = x at *
      have hNI : (N : Int) = 1 + (N8 : Int) := by have := hN.out; omega
      have hdl : (K.drop m).length = K.length - m := by simp
      have hkI : (K.length : Int) ≤ 80 := by omega
      have hmI : (m : Int) ≤ (K.length : Int) := by omega
      have hm0 : (0 : Int) ≤ (m : Int) := by omega
      have hz2 := fun (W : World) (hk : Keeps wr W) => And.intro ((hk.cell (p := ⟨c, off + k * 2, none⟩) (cell_lt z0)).trans z0) ((hk.cell (p := ⟨c, off + k * 2 + 1, none⟩) (cell_lt z1)).trans z1)
      have hcw : c < w.heap.size := by
        obtain ⟨_, _, hv'', _, _, hcell⟩ := srcCell hv.out
        obtain ⟨c', off', hp', hc1⟩ := hcell k hlt
        simp only [Value.slice.injEq] at hv''
        rw [← hv''.1] at hp'
        simp only [Option.some.injEq, Addr.mk.injEq] at hp'
        rw [hp'.1]; exact cell_lt (hc1 0 (by decide))
      clear hz2
      replace hdl := Lib.hid hdl
      replace hNI := Lib.hid hNI
      by_cases hroom : K.length < m + N
      case' pos =>
        have hpush := hI.push (by rw [hdl.out]; omega) x _ rfl
        have hroomI : (K.length : Int) - (m : Int) < 1 + (N8 : Int) := by have := hNI.out; omega
        have hI1 := Lib.hid hI
        have hpne := hI.hp
        have hbne := hI.hb
        replace hpush := Lib.hid hpush
        clear hI
        go_wp2_with fail
        refine hpush.out.mono ?_
        rintro e w2 ⟨rfl, ⟨hd, hR2⟩, hC2⟩
        have y0 := (chgCell hC2 (p := ⟨c, off + k * 2, none⟩) (cell_lt z0) (by simp only; omega)).trans z0
        have y1 := (chgCell hC2 (p := ⟨c, off + k * 2 + 1, none⟩) (cell_lt z1) (by simp only; omega)).trans z1
        have hsrc := slcs_one (Blk.new w2 30 (xc x)) rfl
        have hrow2 : RowS 2 B0 30 w2 kv' (K.map xc) := hI1.out.kept.chg hC2 (fun j hj hs => by have := hI1.out.hpB; have := hI1.out.hbB; omega)
        have hrow3 := hrow2.alloc (.cells (xc x).toArray 30)
        have hB2 : B0 ≤ w2.heap.size := Nat.le_trans hI1.out.hB hC2.size
        have hml : (K.map xc).length = K.length := List.length_map _
        have hC3 : Chg (fun k => k = p ∨ k = b) wr (w2.alloc (.cells (xc x).toArray 30)) := hC2.trans (Chg.of_keeps (Keeps.alloc _ _))
        have hR3 := hR2.keeps (Keeps.alloc w2 (.cells (xc x).toArray 30))
        obtain ⟨q1, cap1, hq1⟩ := hrow2.any
        rw [hml] at hq1
        subst hq1
        replace hsrc := Lib.hid hsrc
        replace hrow3 := Lib.hid hrow3
        replace hml := Lib.hid hml
        replace hR3 := Lib.hid hR3
        replace hC3 := Lib.hid hC3
        clear hrow2 hR2 hC2 hpush z0 z1
        go_wp2_with (at_builtin; refine appN rfl _ _ 22 30 _ 2 24 rfl Try.underlying22 info rfl (by decide) B0 _ _ rfl hrow3.out _ [xc x] rfl hsrc.out (by intro el hel; rw [List.mem_singleton.1 hel]; exact xc_one x) ?c1 ?c2 ?c3 ?_)
        case c1 => have := hml.out; rw [this]; simp; unfold maxLen; omega
        case c2 => have := hml.out; rw [this]; simp; omega
        case c3 => (simp only [World.size_alloc]; omega)
        intro kv3 W4 hrow4 _ hbel
        have hI4 : InvT w W4 p b N B0 kv3 (K ++ [x]) m := by
          have hI := hI1.out
          have e1 := hI.hp
          have e2 := hI.hpB
          refine ⟨⟨hd, hR3.out.below hbel hI.hpB hI.hbB⟩, by rw [List.map_append]; exact hrow4, Below.trans (Chg.keeps hC3.out hI.keeps (fun k hk hs => by omega)) (Below.mono hbel (by omega)), hI.hp, hI.hb, hI.hpB, hI.hbB, ?_, by rw [List.length_append]; omega⟩
          exact Nat.le_trans (by simp only [World.size_alloc]; omega) hbel.size
        have hn4 : ((K.length : Int) + 1) = ((K ++ [x]).length : Int) := by simp
        have hk4 : (K ++ [x]).length ≤ k + 1 := by simp; omega
        have hm4 : (K ++ [x]).length ≤ m + N := by simp; omega
        have hlt4 : m < (K ++ [x]).length := by simp; omega
        generalize K ++ [x] = K4 at *
        replace hI4 := Lib.hid hI4
        replace hn4 := Lib.hid hn4
        clear hrow4 hbel hR3 hC3 hsrc hrow3 hml hI1 y0 y1
        go_upto_region 16 with (fail)
      case' neg =>
        have hfull := hI.full (by rw [hdl.out]; omega) x _ rfl
        have hroomI : ¬ (K.length : Int) - (m : Int) < 1 + (N8 : Int) := by have := hNI.out; omega
        replace hfull := Lib.hid hfull
        obtain ⟨kv3, rfl⟩ : ∃ z, z = kv' := ⟨_, rfl⟩
        clear hI
        go_wp2_with fail
        refine hfull.out.mono ?_
        rintro e W4 ⟨rfl, hI4⟩
        obtain ⟨K4, rfl⟩ : ∃ z, z = K := ⟨_, rfl⟩
        have hk4 : K4.length ≤ k + 1 := by omega
        have hm4 : K4.length ≤ m + N := by omega
        have hlt4 : m < K4.length := by omega
        have hn4 : (K4.length : Int) = (K4.length : Int) := rfl
        replace hI4 := Lib.hid hI4
        replace hn4 := Lib.hid hn4
        clear z0 z1 hfull
        go_upto_region 16 with (fail)
      all_goals
        clear hNI hdl hroom
        obtain ⟨g, cap3, rfl, hg1, hg2, _, _⟩ := hI4.out.cells m hlt4
        have hg3 : (0 : Int) ≤ (K4.length : Int) := by omega
        by_cases hkb : k < bs.length
        · obtain ⟨cb, offb, rfl, hbc⟩ := boolCell hu0.out hI4.out.keeps k hkb
          have hkbI := Int.ofNat_lt.2 hkb
          have hkbI0 : (0 : Int) ≤ (k : Int) := by omega
          generalize bs[k] = bk at *
          cases bk with
          | true =>
            have hpop := hI4.out.pop hlt4
            have hlt4I : (m : Int) < (K4.length : Int) := by omega
            generalize hy : K4[m] = y at *
            replace hpop := Lib.hid hpop
            replace hI4 := Lib.hid hI4
            replace hy := Lib.hid hy
            go_wp2_with fail
            refine hpop.out.mono ?_
            rintro e W5 ⟨rfl, hI5⟩
            obtain ⟨y0, y1⟩ := hI5.cells2 m hlt4
            rw [hy.out] at y0 y1
            have hI6 := hI5.kept' (Keeps.trans (Keeps.alloc W5 (.cells (xc y).toArray 30)) (Keeps.drew _))
            replace hI5 := Lib.hid hI5
            replace hI6 := Lib.hid hI6
            clear hI4 hpop
            go_upto_region 18 with (fail)
            refine wp_gen (fun W => W.cell? ⟨W5.heap.size, 0, none⟩ = some (.int .i64 y.1) ∧ W.cell? ⟨W5.heap.size, 1, none⟩ = some (.string y.2) ∧ W.cell? ⟨g, m * 2, none⟩ = some (.int .i64 y.1) ∧ W.cell? ⟨g, m * 2 + 1, none⟩ = some (.string y.2) ∧ Keeps W5 W) ⟨(Blk.new W5 30 (xc y)).cell 0 (by simp [xc]), (Blk.new W5 30 (xc y)).cell 1 (by simp [xc]), ((Keeps.alloc W5 _).cell (p := ⟨g, m * 2, none⟩) (cell_lt y0)).trans y0, ((Keeps.alloc W5 _).cell (p := ⟨g, m * 2 + 1, none⟩) (cell_lt y1)).trans y1, Keeps.alloc _ _⟩ ?_
            clear y0 y1 hI6
            rintro W6 ⟨t0, t1, y0, y1, hK6⟩
            replace hK6 := Lib.hid hK6
            go_quiet (fail)
            rename_i nq
            have hI6 := hI5.out.kept' (Keeps.trans hK6.out (Keeps.drewN W6 nq))
            replace hI6 := Lib.hid hI6
            clear t0 t1 y0 y1 hI5 hK6
            go_wp2_with fail
            go_roundw
            case rel => exact ⟨k + 1, K4, m + 1, _, by omega, by omega, by go_num, by first | rfl | rw [hn4.out], by go_num, rfl, hk4, by omega, hI6.out⟩
            case measure => (simp [intOf]; try omega)
          | false =>
            replace hI4 := Lib.hid hI4
            go_wp2_with fail
            go_roundw
            case rel => exact ⟨k + 1, K4, m, _, by omega, by omega, by go_num, by first | rfl | rw [hn4.out], rfl, rfl, hk4, hm4, hI4.out⟩
            case measure => (simp [intOf]; try omega)
        · have hkbI : ¬ (k : Int) < (bs.length : Int) := by omega
          replace hI4 := Lib.hid hI4
          go_wp2_with fail
          go_roundw
          case rel => exact ⟨k + 1, K4, m, _, by omega, by omega, by go_num, by first | rfl | rw [hn4.out], rfl, rfl, hk4, hm4, hI4.out⟩
          case measure => (simp [intOf]; try omega)
    · have hcase : (¬ (k : Int) < (zs.length : Int)) ∨ ((k : Int) < (zs.length : Int) ∧ ¬ (k : Int) < 80) := by omega
      clear hgo hv hu0 hKk hKm
      have hm0 : (0 : Int) ≤ (m : Int) := by omega
      have hkn := fun (W : World) => known02_any W
      replace hI := Lib.hid hI
      replace hkn := Lib.hid hkn
      rcases hcase with h1 | ⟨h1, h2⟩
      all_goals
        go_wp2_with fail
        go_loopw [10] (fun o wr => ∃ (m' : Nat), m' ≤ K.length ∧ o = .int .i64 (m' : Int) ∧ InvT w wr p b N B0 kv' K m') (fun o _ => K.length - (intOf o).toNat)
        case atStart => exact ⟨m, hm, rfl, hI.out⟩
        case round =>
          clear hI
          obtain ⟨m', hm', rfl, hI⟩ := hrel
          by_cases hlt : m' < K.length
          · have hltI : (m' : Int) < (K.length : Int) := by omega
            have hpop := hI.pop hlt
            obtain ⟨g, cap3, rfl, hg1, hg2, _, _⟩ := hI.cells m' hlt
            have hg3 : (0 : Int) ≤ (K.length : Int) := by omega
            generalize hy : K[m'] = y at *
            replace hpop := Lib.hid hpop
            replace hy := Lib.hid hy
            clear hI
            go_wp2_with fail
            refine hpop.out.mono ?_
            rintro e W5 ⟨rfl, hI5⟩
            obtain ⟨y0, y1⟩ := hI5.cells2 m' hlt
            rw [hy.out] at y0 y1
            replace hI5 := Lib.hid hI5
            clear hpop
            go_upto_region 23 with (fail)
            refine wp_gen (fun W => W.cell? ⟨W5.heap.size, 0, none⟩ = some (.int .i64 y.1) ∧ W.cell? ⟨W5.heap.size, 1, none⟩ = some (.string y.2) ∧ W.cell? ⟨g, m' * 2, none⟩ = some (.int .i64 y.1) ∧ W.cell? ⟨g, m' * 2 + 1, none⟩ = some (.string y.2) ∧ Keeps W5 W) ⟨(Blk.new W5 30 (xc y)).cell 0 (by simp [xc]), (Blk.new W5 30 (xc y)).cell 1 (by simp [xc]), ((Keeps.alloc W5 _).cell (p := ⟨g, m' * 2, none⟩) (cell_lt y0)).trans y0, ((Keeps.alloc W5 _).cell (p := ⟨g, m' * 2 + 1, none⟩) (cell_lt y1)).trans y1, Keeps.alloc _ _⟩ ?_
            clear y0 y1
            rintro W6 ⟨t0, t1, y0, y1, hK6⟩
            replace hK6 := Lib.hid hK6
            go_quiet (fail)
            rename_i nq
            have hI6 := hI5.out.kept' (Keeps.trans hK6.out (Keeps.drewN W6 nq))
            replace hI6 := Lib.hid hI6
            clear t0 t1 y0 y1 hI5 hK6
            go_wp2_with fail
            go_roundw
            case rel => exact ⟨m' + 1, by omega, by go_num, hI6.out⟩
            case measure => (simp [intOf]; try omega)
          · have hem : m' = K.length := by omega
            have hpop := hI.empty hem
            have hltI : ¬ (m' : Int) < (K.length : Int) := by omega
            have hlen := fun (W : World) (h : InvT w W p b N B0 kv' K m') => h.len
            rw [show K.length - m' = 0 by omega] at hlen
            replace hem := Lib.hid hem
            replace hpop := Lib.hid hpop
            replace hlen := Lib.hid hlen
            clear hI
            go_wp2_with fail
            refine hpop.out.mono ?_
            rintro e W5 ⟨rfl, hI5⟩
            replace hI5 := Lib.hid hI5
            go_upto_region 27 with (fail)
            refine wp_gen (fun W => Keeps W5 W) (Keeps.alloc _ _) ?_
            intro W6 hK6
            replace hK6 := Lib.hid hK6
            go_wp2_with fail
            refine (hkn.out _).mono ?_
            rintro e W7 ⟨rfl, hK7⟩
            have hI7 := hI5.out.kept' (Keeps.trans hK6.out hK7)
            have hl7 := hlen.out W7 hI7
            replace hI7 := Lib.hid hI7
            replace hl7 := Lib.hid hl7
            clear hK6 hK7 hI5 hlen hpop
            go_wp2_with fail
            refine hl7.out.mono ?_
            rintro e W8 ⟨rfl, rfl⟩
            go_wp2_with fail
            go_ret
            exact ⟨rfl, hI7.out.keeps⟩
end Go.Proofs.Ytkchcckdfbpdmaa.RgT
