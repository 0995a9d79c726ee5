/- CallsOnce: the walk. -/
import Derived.Test.YtllnncojafcdoaaLaw11c
import Derived.Deep.DeepCutAuto
namespace Go.Proofs.Ytllnncojafcdoaa
open Go.RowKit RgC

/-- A cell of a row of Booleans. -/
theorem boolAt {w W : World} {q : Option Addr} {n cap : Nat} {bs : List Bool} (h : Slc w (.slice q n cap) (bs.map .bool)) (hk : Keeps w W) (k : Nat) (hkb : k < bs.length) : ∃ c off, q = some ⟨c, off, none⟩ ∧ W.cell? ⟨c, off + k, none⟩ = some (.bool bs[k]) := by
  obtain ⟨p, cap', hv, _, _, _, hcell⟩ := Slc.below h hk
  obtain ⟨c, off, hp, h1⟩ := hcell k (by rw [List.length_map]; exact hkb)
  simp only [Value.slice.injEq] at hv
  rw [← hv.1] at hp
  refine ⟨c, off, hp, ?_⟩
  rw [h1]
  simp [List.getD, hkb]
theorem idOf_div (c j : Nat) (hc : c < 4) : (idOf c j).tdiv 4 = (j : Int) := by
  unfold idOf
  rw [Int.tdiv_eq_ediv_of_nonneg (by omega)]; omega
theorem idOf_mod (c j : Nat) (hc : c < 4) : (idOf c j).tmod 4 = (c : Int) := by
  unfold idOf
  rw [Int.tmod_eq_emod_of_nonneg (by omega)]; omega
/-- A cell of told numbers. -/
theorem outAt {W : World} {q : Option Addr} {n cap : Nat} {O : List (Nat × Nat)} (h : Slc W (.slice q n cap) ((O.map fun a => idOf a.1 a.2).map (Value.int .i64))) (k : Nat) (hk : k < O.length) : ∃ c off, q = some ⟨c, off, none⟩ ∧ W.cell? ⟨c, off + k, none⟩ = some (.int .i64 (idOf O[k].1 O[k].2)) := by
  obtain ⟨p, cap', hv, _, _, _, hcell⟩ := h
  obtain ⟨c, off, hp, h1⟩ := hcell k (by simp; exact hk)
  simp only [Value.slice.injEq] at hv
  rw [← hv.1] at hp
  refine ⟨c, off, hp, ?_⟩
  rw [h1]
  simp [List.getD, hk]
theorem rowOwn {W : World} {base : Nat} {e : TypeId} {v : Value} {n : Nat} {xs : List Value} (h : W.ownsRow base e 1 v n xs) : ∀ b, v.ownBlock = some b → base ≤ b := by
  intro b hb
  rcases h.2 with ⟨h, _⟩ | ⟨g, cap, cur, h, hg, _⟩
  · subst h; simp [Value.ownBlock] at hb
  · subst h; simp [Value.ownBlock] at hb; omega
set_option maxRecDepth 100000 in
set_option maxHeartbeats 4000000 in
theorem lawOnce_any (v1 v2 v3 : Value) (zs : List Int) (cs ds : List Bool) (w : World) (hz : Ints w v1 zs) (hcs : Slc w v2 (cs.map .bool)) (hds : Slc w v3 (ds.map .bool)) :
    Calls Try.prog 3 #[v1, v2, v3] w fun e w' => e = .returned (.bool true) ∧ Keeps w w' := by
  have hkn := fun (W : World) => known11_any W
  have hst := LI.start (n := 4) (by decide) (by decide) w
  rw [show ((4 : Nat) : Int) = 4 from rfl, ← ringsW_zero] at hst
  obtain ⟨q1, cap1, rfl, hl1, hc1, hcell1⟩ := hz.open
  have hcs0 := hcs
  obtain ⟨q2, cap2, rfl, hl2, hc2, hn2, hcell2⟩ := hcs
  have hds0 := hds
  obtain ⟨q3, cap3, rfl, hl3, hc3, hn3, hcell3⟩ := hds
  clear hcell2 hcell3 hn2 hn3 hcell1
  rw [List.length_map] at hl2 hl3 hcs0 hds0
  unfold maxLen at hc2 hc3
  have hzI : (0 : Int) ≤ zs.length := by omega
  have hcI : (0 : Int) ≤ cs.length := by omega
  have hdI : (0 : Int) ≤ ds.length := by omega
  replace hcs0 := Lib.hid hcs0
  replace hds0 := Lib.hid hds0
  replace hkn := Lib.hid hkn
  replace hst := Lib.hid hst
  replace hz := Lib.hid hz
  rw [List.length_map, List.length_map]
  go_enter Try.func3, Try.ntmps3
  go_wp2_with fail
  refine hst.out.mono ?_
  rintro e w1 ⟨p, rb, cap, pp, bb, rfl, hL⟩
  obtain ⟨b1, e1⟩ : ∃ b, b = w1.heap.size := ⟨_, rfl⟩
  obtain ⟨b2, e2⟩ : ∃ b, b = w1.heap.size + 1 := ⟨_, rfl⟩
  obtain ⟨b3, e3⟩ : ∃ b, b = w1.heap.size + 2 := ⟨_, rfl⟩
  have hO := OI.start hL b1 b2 b3 e1 e2 e3
  replace hO := Lib.hid hO
  replace e1 := Lib.hid e1
  replace e2 := Lib.hid e2
  replace e3 := Lib.hid e3
  clear hst hL
  go_upto_region 9 with (fail)
  refine wp_gen (fun W => OI w p rb cap pp bb b1 b2 b3 0 (ringsW 0 (fun _ => 0) (fun _ => 0) (fun _ => 0)) (fun _ => 0) (fun _ => 0) (fun _ => 0) W) hO.out ?_
  rw [← e3.out, ← e2.out, ← e1.out]
  clear hO e1 e2 e3
  rintro W hO
  replace hO := Lib.hid hO
  have hG0 : Hid (Once 0 (0 : Nat) (fun _ => 0) (fun _ => 0) (fun _ => 0) (fun _ => 0)) := Lib.hid Once.zero
  go_loopw [12, 13, 14] (fun gn n i wr => ∃ (k G : Nat) (cpu : Nat → Nat) (t g l : Nat → Int), k ≤ zs.length ∧ k ≤ 60 ∧ G ≤ k ∧ gn = .int .i64 (G : Int) ∧ n = .int .i64 (k : Int) ∧ i = .int .i64 (k : Int) ∧ Once k (G : Int) cpu t g l ∧ OI w p rb cap pp bb b1 b2 b3 (G : Int) (ringsW k cpu t g) t g l wr) (fun _ _ i _ => zs.length - (intOf i).toNat)
  case atStart => exact ⟨0, 0, _, _, _, _, by omega, by omega, by omega, rfl, rfl, rfl, hG0.out, hO.out⟩
  case round =>
    clear hO hG0
    obtain ⟨k, G, cpu, t, g, l, hk, hk60, hGk, rfl, rfl, rfl, hG, hO⟩ := hrel
    by_cases hgo : k < zs.length ∧ k < 60
    · obtain ⟨hlt, h60⟩ := hgo
      have hltI := Int.ofNat_lt.2 hlt
      have h60I : (k : Int) < 60 := by omega
      have hk0 : (0 : Int) ≤ (k : Int) := by omega
      obtain ⟨zc, hzc⟩ : ∃ x, x = zs[k] := ⟨_, rfl⟩
      obtain ⟨zb, zoff, hz1, hz2⟩ : ∃ zb zoff, q1 = some ⟨zb, zoff, none⟩ ∧ wr.cell? ⟨zb, zoff + k, none⟩ = some (.int .i64 zc) := by
        have hzr : Ints wr (.slice q1 zs.length cap1) zs := Slc.below hz.out hO.li.keeps
        obtain ⟨q', c', hv', _, _, hcell⟩ := hzr.open
        obtain ⟨b, off, h1, h2⟩ := hcell k hlt
        simp only [Value.slice.injEq] at hv'
        exact ⟨b, off, by rw [hv'.1]; exact h1, by rw [hzc]; exact h2⟩
      subst hz1
      obtain ⟨c, hc, ec⟩ := wrap_mod zc 4 (by decide)
      have hc4 : c < 4 := by omega
      have hadd := hO.add1 c hc4 (idOf c (k + 1)) wr.heap.size rfl
      rw [ringsW_add hG (by omega) c hc4, if_pos (ringsW_room (by omega) c hc4), show idOf c (k + 1) = ((k : Int) + 1) * 4 + (c : Int) by unfold idOf; omega] at hadd
      have hG1 := hG.add c hc4
      replace hG1 := Lib.hid hG1
      replace hadd := Lib.hid hadd
      clear hG hO hzc
      go_wp2_with fail
      refine hadd.out.mono ?_
      rintro e w2 ⟨rfl, hO⟩
      generalize cpuN k c cpu = cpu1 at *
      replace hO := Lib.hid hO
      clear hadd
      go_upto_region 15 with (fail)
      go_cut [65] (fun b wx => (∃ bit, b = .bool bit) ∧ wx = w2)
      case first =>
        by_cases hck : k < cs.length
        · have hckI := Int.ofNat_lt.2 hck
          obtain ⟨cb, coff, rfl, hcell⟩ := boolAt hcs0.out hO.out.li.keeps k hck
          generalize cs[k] = bit at *
          go_wp2_with fail
          go_meet
          exact ⟨⟨_, rfl⟩, rfl⟩
        · have hckI : ¬ (k : Int) < (cs.length : Int) := by omega
          go_wp2_with fail
          go_meet
          exact ⟨⟨_, rfl⟩, rfl⟩
      case rest =>
        obtain ⟨⟨bit, rfl⟩, hw⟩ := hcut
        subst hw
        go_upto_if 65 with fail
        go_cut [12, 16] (fun gn _ wx => ∃ (G2 : Nat) (g2 : Nat → Int), G2 ≤ k + 1 ∧ gn = .int .i64 (G2 : Int) ∧ Once (k + 1) (G2 : Int) cpu1 t g2 l ∧ OI w p rb cap pp bb b1 b2 b3 (G2 : Int) (ringsW (k + 1) cpu1 t g2) t g2 l wx)
        case first =>
          cases bit with
          | false =>
            go_wp2_with fail
            go_meet
            exact ⟨G, g, by omega, rfl, hG1.out, hO.out⟩
          | true =>
            have hcl := hO.out.close ((G : Int) + 1) (by omega) (by omega)
            rw [ringsW_close] at hcl
            replace hcl := Lib.hid hcl
            clear hO
            go_wp2_with fail
            refine hcl.out.mono ?_
            rintro e w3 ⟨rfl, hO⟩
            have hO1 : OI w p rb cap pp bb b1 b2 b3 ((G : Int) + 1) (ringsW (k + 1) cpu1 t (clG ((G : Int) + 1) g (k + 1 + 1))) t (clG ((G : Int) + 1) g 1) l w3 := by rw [clG_one]; exact hO
            clear hO
            have hO := hO1
            clear hO1
            replace hO := Lib.hid hO
            clear hcl
            go_wp2_with fail
            go_loopw [16] (fun j wr => ∃ m : Nat, 1 ≤ m ∧ m ≤ k + 2 ∧ j = .int .i64 (m : Int) ∧ OI w p rb cap pp bb b1 b2 b3 ((G : Int) + 1) (ringsW (k + 1) cpu1 t (clG ((G : Int) + 1) g (k + 1 + 1))) t (clG ((G : Int) + 1) g m) l wr) (fun j _ => k + 2 - (intOf j).toNat)
            case atStart => exact ⟨1, by omega, by omega, rfl, hO.out⟩
            case round =>
              clear hO
              obtain ⟨m, hm1, hm2, rfl, hO⟩ := hrel
              by_cases hle : m ≤ k + 1
              · have hleI : (m : Int) ≤ (k : Int) + 1 := by omega
                have hm61 : m < 61 := by omega
                have hcell := hO.cG m hm61
                rw [clG_at] at hcell
                have hfr := hO.bg.frozen m
                have hmI : (0 : Int) ≤ (m : Int) := by omega
                have hm61I : (m : Int) < 61 := by omega
                by_cases h0 : g m = 0
                · have hset := hO.setG m ((G : Int) + 1)
                  rw [clG_yes _ _ _ hm1 h0] at hset
                  rw [h0] at hcell
                  replace h0 := Lib.hid h0
                  replace hset := Lib.hid hset
                  clear hO
                  go_wp2_with fail
                  go_roundw
                  case rel => exact ⟨m + 1, by omega, by omega, by go_num, hset.out⟩
                  case measure => (simp [intOf]; try omega)
                · have hset := hO
                  rw [clG_no _ _ _ h0] at hset
                  have hb : (g m == 0) = false := by rw [beq_eq_false_iff_ne]; exact h0
                  replace h0 := Lib.hid h0
                  replace hset := Lib.hid hset
                  clear hO
                  generalize g m = gm at *
                  go_wp2_with fail
                  go_roundw
                  case rel => exact ⟨m + 1, by omega, by omega, by go_num, hset.out⟩
                  case measure => (simp [intOf]; try omega)
              · obtain rfl : m = k + 1 + 1 := by omega
                have hleI : ¬ ((k + 1 + 1 : Nat) : Int) ≤ (k : Int) + 1 := by omega
                replace hO := Lib.hid hO
                go_wp2_with fail
                go_meet
                exact ⟨G + 1, _, by omega, rfl, hG1.out.close, hO.out⟩
        case rest =>
          obtain ⟨G2, g2, hG2k, rfl, hG2, hO2⟩ := hcut
          obtain ⟨W2, hW2⟩ : ∃ W2, W2 = wc := ⟨_, rfl⟩
          rw [← hW2] at hO2 ⊢
          clear hW2 hG1 hO
          replace hG2 := Lib.hid hG2
          replace hO2 := Lib.hid hO2
          go_upto_region 23 with (fail)
          go_cut [93] (fun b wx => (∃ bit, b = .bool bit) ∧ wx = W2)
          case first =>
            by_cases hck : k < ds.length
            · have hckI := Int.ofNat_lt.2 hck
              obtain ⟨cb, coff, rfl, hcell⟩ := boolAt hds0.out hO2.out.li.keeps k hck
              generalize ds[k] = bit2 at *
              go_wp2_with fail
              go_meet
              exact ⟨⟨_, rfl⟩, rfl⟩
            · have hckI : (ds.length : Int) ≤ (k : Int) := by omega
              go_wp2_with fail
              go_meet
              exact ⟨⟨_, rfl⟩, rfl⟩
          case rest =>
            obtain ⟨⟨bit2, rfl⟩, hw⟩ := hcut
            subst hw
            cases bit2 with
            | true =>
              go_wp2_with fail
              go_roundw
              case rel => exact ⟨k + 1, G2, _, _, _, _, by omega, by omega, hG2k, rfl, by go_num, by go_num, hG2.out, hO2.out⟩
              case measure => (simp [intOf]; try omega)
            | false =>
              have hd := hO2.out.done ((G2 : Int) - 1)
              rw [tell_outW hG2.out] at hd
              obtain ⟨wq, hwq⟩ : ∃ x, x = wc := ⟨_, rfl⟩
              have hsz : b1 < wc.heap.size ∧ b2 < wc.heap.size ∧ b3 < wc.heap.size := ⟨hO2.out.bt.lt, hO2.out.bg.lt, hO2.out.bl.lt⟩
              have hOl := outW_len (cpu := cpu1) (t := t) (g := g2) (n := k + 1) (by omega) ((G2 : Int) - 1)
              replace hd := Lib.hid hd
              clear hwq
              clear hO2
              go_wp2_with fail
              refine hd.out.mono ?_
              rintro e w4 ⟨v, rfl, hr, hO⟩
              have hsl := slc_of_row hr
              have hlo := rowOwn hr
              obtain ⟨q5, cap5, rfl, _⟩ : ∃ q5 cap5, v = .slice q5 (outW (k + 1) ((G2 : Int) - 1) cpu1 t g2).length cap5 ∧ True := by
                obtain ⟨q, cp, hv, _⟩ := hsl
                exact ⟨q, cp, by simpa using hv, trivial⟩
              clear hr hd
              have hL0 : LastOk (outW (k + 1) ((G2 : Int) - 1) cpu1 t g2) l 0 l := fun c _ => .inl rfl
              have hsep : ∀ b, (Value.slice q5 (outW (k + 1) ((G2 : Int) - 1) cpu1 t g2).length cap5).ownBlock = some b → b ≠ b1 ∧ b ≠ b3 := by
                intro b hb
                have := hlo b hb
                omega
              have hO0 : OI w p rb cap pp bb b1 b2 b3 (G2 : Int) ((ringsW (k + 1) cpu1 t g2).map (lfL ((G2 : Int) - 1))) (tk (outW (k + 1) ((G2 : Int) - 1) cpu1 t g2) t 0) g2 l w4 := by rw [tk_zero]; exact hO
              have hk3 := fun (m : Nat) (a : Nat × Nat) (L : Nat → Int) => once_kth (G := (G2 : Int) - 1) (L := L) (k := m) (a := a) hG2.out
              have hk4 := fun (L : Nat → Int) => hG2.out.done (G := (G2 : Int) - 1) (L := L) _ (Nat.le_refl _)
              have hk5 := ringsW_done hG2.out ((G2 : Int) - 1) _ (Nat.le_refl _)
              have hk6 := fun (j : Nat) (h1 : 1 ≤ j) (h2 : j ≤ k + 1) (h3 : g2 j ≠ 0) (h4 : g2 j ≤ (G2 : Int) - 1) => tk_all ((G2 : Int) - 1) j hG2.out h1 h2 h3 h4 _ (Nat.le_refl _)
              have hg0 := hG2.out.g0
              generalize outW (k + 1) ((G2 : Int) - 1) cpu1 t g2 = OO at *
              rw [hk5] at hO0
              replace hk3 := Lib.hid hk3
              replace hk4 := Lib.hid hk4
              replace hk5 := Lib.hid hk5
              replace hk6 := Lib.hid hk6
              replace hg0 := Lib.hid hg0
              replace hO0 := Lib.hid hO0
              replace hsl := Lib.hid hsl
              replace hsep := Lib.hid hsep
              replace hL0 := Lib.hid hL0
              have hOI : (0 : Int) ≤ (OO.length : Int) := by omega
              clear hO hlo
              go_wp2_with fail
              go_loopw [18] (fun j wr => ∃ (m : Nat) (L : Nat → Int), m ≤ OO.length ∧ j = .int .i64 (m : Int) ∧ LastOk OO l m L ∧ OI w p rb cap pp bb b1 b2 b3 (G2 : Int) (ringsW (k + 1) cpu1 (tk OO t OO.length) g2) (tk OO t m) g2 L wr ∧ Slc wr (.slice q5 OO.length cap5) ((OO.map fun a => idOf a.1 a.2).map (Value.int .i64))) (fun j _ => OO.length - (intOf j).toNat)
              case atStart => exact ⟨0, l, Nat.zero_le _, rfl, hL0.out, hO0.out, hsl.out⟩
              case round =>
                clear hL0 hO0 hsl
                obtain ⟨m, L, hm, rfl, hLL, hO, hsl⟩ := hrel
                by_cases hmo : m < OO.length
                · have hmoI := Int.ofNat_lt.2 hmo
                  obtain ⟨oc, ooff, rfl, hcell⟩ := outAt hsl m hmo
                  obtain ⟨⟨y1, y2, y3⟩, y4, y5, y6, y7⟩ := hk3.out m OO[m] L (List.getElem?_eq_getElem hmo) hLL
                  have hst := tk_step (t := t) (List.getElem?_eq_getElem hmo)
                  have hls := last_step (List.getElem?_eq_getElem hmo) hLL
                  generalize OO[m] = a at *
                  obtain ⟨ac, aj⟩ := a
                  simp only at hcell y1 y2 y3 y4 y5 y6 y7 hst hls
                  have e1 := idOf_div ac aj y1
                  have e2 := idOf_mod ac aj y1
                  generalize idOf ac aj = X at *
                  have hmI : (0 : Int) ≤ (m : Int) := by omega
                  have z1 : (0 : Int) ≤ (ac : Int) := by omega
                  have z2 : (1 : Int) ≤ (aj : Int) := by omega
                  have z3 : (aj : Int) ≤ (k : Int) + 1 := by omega
                  have z4 : (aj : Int) < 61 := by omega
                  have z5 : (0 : Int) ≤ (aj : Int) := by omega
                  have z6 : (ac : Int) < 4 := by omega
                  have z7 : (g2 aj == 0) = false := by rw [beq_eq_false_iff_ne]; exact y4
                  replace y4 := Lib.hid y4
                  replace y6 := Lib.hid y6
                  replace hst := Lib.hid hst
                  replace hls := Lib.hid hls
                  replace hLL := Lib.hid hLL
                  replace hO := Lib.hid hO
                  replace hsl := Lib.hid hsl
                  go_wp2_with fail
                  go_quiet (fail)
                  rename_i nq
                  go_upto_region 29 with (fail)
                  refine wp_gen (fun W => OI w p rb cap pp bb b1 b2 b3 (G2 : Int) (ringsW (k + 1) cpu1 (tk OO t OO.length) g2) (tk OO t m) g2 L W ∧ Slc W (.slice (some ⟨oc, ooff, none⟩) OO.length cap5) ((OO.map fun a => idOf a.1 a.2).map (Value.int .i64))) ⟨hO.out.kept (Keeps.drewN _ _), Slc.below hsl.out (Keeps.drewN _ _)⟩ ?_
                  clear hcell hO hsl
                  rintro W ⟨hO, hsl⟩
                  have hcT := hO.cT aj (by omega)
                  have hcG := hO.cG aj (by omega)
                  have hcL := hO.cL ac y1
                  rw [y6.out] at hcT
                  have hfT := hO.bt.frozen aj
                  have hfL := hO.bl.frozen ac
                  have hcL2 := (hO.setT aj 1).cL ac y1
                  have hfL2 := (hO.setT aj 1).bl.frozen ac
                  have hO1 := (hO.setT aj 1).setL ac (aj : Int)
                  rw [hst.out] at hO1
                  have hs1 : Slc ((W.setCell ⟨b1, aj, none⟩ (.int .i64 1)).setCell ⟨b3, ac, none⟩ (.int .i64 aj)) (.slice (some ⟨oc, ooff, none⟩) OO.length cap5) ((OO.map fun a => idOf a.1 a.2).map (Value.int .i64)) :=
                    Slc.chg (S := fun k => k = b1 ∨ k = b3) hsl ((Chg.setCell aj _ (.inl rfl)).trans (Chg.setCell ac _ (.inr rfl))) (fun b hb hS => by have := hsep.out b hb; omega)
                  replace hO1 := Lib.hid hO1
                  replace hs1 := Lib.hid hs1
                  clear hO hsl
                  go_wp2_with fail
                  go_roundw
                  case rel => exact ⟨m + 1, _, by omega, by go_num, hls.out, hO1.out, hs1.out⟩
                  case measure => (simp [intOf]; try omega)
                · obtain rfl : m = OO.length := by omega
                  have hmoI : ¬ (OO.length : Int) < (OO.length : Int) := by omega
                  have hG3 := hk4.out L hLL
                  replace hO := Lib.hid hO
                  replace hG3 := Lib.hid hG3
                  replace hLL := Lib.hid hLL
                  clear hsl
                  go_wp2_with fail
                  go_loopw [21] (fun j wr => ∃ m : Nat, 1 ≤ m ∧ m ≤ k + 2 ∧ j = .int .i64 (m : Int) ∧ OI w p rb cap pp bb b1 b2 b3 (G2 : Int) (ringsW (k + 1) cpu1 (tk OO t OO.length) g2) (tk OO t OO.length) g2 L wr) (fun j _ => k + 2 - (intOf j).toNat)
                  case atStart => exact ⟨1, by omega, by omega, rfl, hO.out⟩
                  case round =>
                    clear hO
                    obtain ⟨m, hm1, hm2, rfl, hO⟩ := hrel
                    by_cases hle : m ≤ k + 1
                    · have hleI : (m : Int) ≤ (k : Int) + 1 := by omega
                      have hm61I : (m : Int) < 61 := by omega
                      have hmI : (0 : Int) ≤ (m : Int) := by omega
                      have hcT := hO.cT m (by omega)
                      have hcG := hO.cG m (by omega)
                      have hgm := (hg0.out m hm1 hle).1
                      have hk7 := hk6.out m hm1 hle
                      replace hO := Lib.hid hO
                      generalize tk OO t OO.length m = tm at *
                      generalize g2 m = gm at *
                      by_cases c1 : 0 < gm
                      · by_cases c2 : gm ≤ (G2 : Int) - 1
                        · have hb : (tm == 0) = false := by rw [beq_eq_false_iff_ne]; exact hk7 (by omega) c2
                          clear hk7
                          go_wp2_with fail
                          go_roundw
                          case rel => exact ⟨m + 1, by omega, by omega, by go_num, hO.out⟩
                          case measure => (simp [intOf]; try omega)
                        · clear hk7
                          go_wp2_with fail
                          go_roundw
                          case rel => exact ⟨m + 1, by omega, by omega, by go_num, hO.out⟩
                          case measure => (simp [intOf]; try omega)
                      · clear hk7
                        go_wp2_with fail
                        go_roundw
                        case rel => exact ⟨m + 1, by omega, by omega, by go_num, hO.out⟩
                        case measure => (simp [intOf]; try omega)
                    · obtain rfl : m = k + 1 + 1 := by omega
                      have hleI : ¬ ((k + 1 + 1 : Nat) : Int) ≤ (k : Int) + 1 := by omega
                      replace hO := Lib.hid hO
                      go_wp2_with fail
                      go_roundw
                      case rel => exact ⟨k + 1, G2, _, _, _, _, by omega, by omega, hG2k, rfl, by go_num, by go_num, hG3.out, hO.out⟩
                      case measure => (simp [intOf]; try omega)
    · have hend : (k : Int) = (zs.length : Int) ∨ (k : Int) = 60 := by omega
      replace hO := Lib.hid hO
      rcases hend with h1 | h1
      · have hx : ¬ (k : Int) < (zs.length : Int) := by omega
        replace h1 := Lib.hid h1
        go_wp2_with fail
        refine (hkn.out _).mono ?_
        rintro e w2 ⟨rfl, hK2⟩
        replace hK2 := Lib.hid hK2
        go_wp2_with fail
        go_ret
        exact ⟨rfl, Keeps.trans hO.out.li.keeps hK2.out⟩
      · have hx : ¬ (k : Int) < 60 := by omega
        replace h1 := Lib.hid h1
        by_cases hy : (k : Int) < (zs.length : Int)
        all_goals
          go_wp2_with fail
          refine (hkn.out _).mono ?_
          rintro e w2 ⟨rfl, hK2⟩
          replace hK2 := Lib.hid hK2
          go_wp2_with fail
          go_ret
          exact ⟨rfl, Keeps.trans hO.out.li.keeps hK2.out⟩
end Go.Proofs.Ytllnncojafcdoaa
