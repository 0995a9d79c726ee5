/- IsaBytes. -/
import Derived.Test.YtmmglikbajiepaaDoorLaw15c
namespace Go.Proofs.YtmmglikbajiepaaDoor
open Go.RowKit

/-! ### The plain part -/
theorem class_op {i : InsS} (h : classM i.op ≠ 0) : 0 ≤ i.op ∧ i.op ≤ 73 := by
  have := class_range i.op
  omega
theorem one_insB {i : InsS} (h : errM i = 0) (r : List Int) : insAt8 (insB i ++ r) = i := by
  obtain ⟨hcl, d0, d1, s0, s1, o0, o1, i0, i1⟩ := errM_right h
  obtain ⟨p0, p1⟩ := class_op hcl
  obtain ⟨op, dst, src, off, imm⟩ := i
  simp only at *
  have e2 : ∀ y : Int, lowL y 2 = [y % 256, y / 256 % 256] := fun y => rfl
  have e4 : ∀ y : Int, lowL y 4 = [y % 256, y / 256 % 256, y / 256 / 256 % 256, y / 256 / 256 / 256 % 256] := fun y => rfl
  unfold insB
  simp only [e2, e4]
  have e : insAt8 (op % 256 :: (dst * 16 + src) % 256 :: ([off % 256, off / 256 % 256] ++ [imm % 256, imm / 256 % 256, imm / 256 / 256 % 256, imm / 256 / 256 / 256 % 256]) ++ r) = oneM (op % 256) ((dst * 16 + src) % 256) (off % 256) (off / 256 % 256) (imm % 256) (imm / 256 % 256) (imm / 256 / 256 % 256) (imm / 256 / 256 / 256 % 256) := rfl
  rw [e]
  unfold oneM sgn
  have q1 : op % 256 = op := by omega
  have q2 : (dst * 16 + src) % 256 / 16 = dst := by omega
  have q3 : (dst * 16 + src) % 256 % 16 = src := by omega
  have q4 : (if 32768 ≤ off % 256 + 256 * (off / 256 % 256) then off % 256 + 256 * (off / 256 % 256) - 2 * 32768 else off % 256 + 256 * (off / 256 % 256)) = off := by split <;> omega
  have q5 : (if 2147483648 ≤ imm % 256 + 256 * (imm / 256 % 256) + 65536 * (imm / 256 / 256 % 256) + 16777216 * (imm / 256 / 256 / 256 % 256) then imm % 256 + 256 * (imm / 256 % 256) + 65536 * (imm / 256 / 256 % 256) + 16777216 * (imm / 256 / 256 / 256 % 256) - 2 * 2147483648 else imm % 256 + 256 * (imm / 256 % 256) + 65536 * (imm / 256 / 256 % 256) + 16777216 * (imm / 256 / 256 / 256 % 256)) = imm := by split <;> omega
  rw [q1, q2, q3, q4, q5]
theorem insBs_len : ∀ l : List InsS, (l.flatMap insB).length = 8 * l.length
  | [] => rfl
  | x :: l => by rw [List.flatMap_cons, List.length_append, insB_len, insBs_len l, List.length_cons]; omega
theorem bytesE_all : ∀ {l : List InsS}, bytesE l = 0 → ∀ i ∈ l, errM i = 0
  | [], _, _, h => by cases h
  | x :: l, h, i, hi => by
    unfold bytesE at h
    split at h
    · rename_i hx
      rcases List.mem_cons.1 hi with rfl | hi
      · exact hx
      · exact bytesE_all h i hi
    · rename_i hx
      exact absurd h hx
theorem chunks_insBs : ∀ (l : List InsS), (∀ i ∈ l, errM i = 0) → chunksN l.length (l.flatMap insB) = l
  | [], _ => rfl
  | x :: l, h => by
    have h1 : ((insB x ++ l.flatMap insB).drop 8) = l.flatMap insB := by rw [List.drop_append_of_le_length (Nat.le_of_eq (insB_len x).symm), List.drop_eq_nil_of_le (Nat.le_of_eq (insB_len x)), List.nil_append]
    rw [List.length_cons, List.flatMap_cons, chunksN, one_insB (h x List.mem_cons_self), h1, chunks_insBs l (fun i hi => h i (List.mem_cons_of_mem _ hi))]
theorem parse_insBs {l : List InsS} (h : bytesE l = 0) : parseM (l.flatMap insB) = (l, 0, 0) := by
  have hc : chunksM (l.flatMap insB) = l := by
    unfold chunksM
    rw [insBs_len, show 8 * l.length / 8 = l.length by omega]
    exact chunks_insBs l (bytesE_all h)
  unfold parseM
  rw [hc, insBs_len, if_neg (by simpa using h), if_neg (by omega)]
theorem bytesE_snoc (x : InsS) : ∀ l : List InsS, bytesE (l ++ [x]) = if bytesE l = 0 then errM x else bytesE l
  | [] => by
    have e : bytesE ([] : List InsS) = 0 := rfl
    rw [e, if_pos rfl, List.nil_append, bytesE]
    split
    · rename_i h; rw [h]; rfl
    · rfl
  | y :: l => by
    rw [List.cons_append, bytesE, bytesE_snoc x l]
    by_cases h : errM y = 0
    · simp only [bytesE, if_pos h]
    · simp only [bytesE, if_neg h]
theorem insB_rng (i : InsS) : ∀ z ∈ insB i, 0 ≤ z ∧ z < 256 := by
  have e2 : ∀ y : Int, lowL y 2 = [y % 256, y / 256 % 256] := fun y => rfl
  have e4 : ∀ y : Int, lowL y 4 = [y % 256, y / 256 % 256, y / 256 / 256 % 256, y / 256 / 256 / 256 % 256] := fun y => rfl
  intro z hz
  unfold insB at hz
  simp only [e2, e4, List.cons_append, List.nil_append, List.mem_cons, List.not_mem_nil, or_false] at hz
  omega
theorem own_tag {W W' : World} {base base' sz sz' n n' : Nat} {e e' : TypeId} {v v' : Value} {xs xs' : List Value} (h : W.ownsRow base e sz v n xs) (h' : W.ownsRow base' e' sz' v' n' xs') (hne : e ≠ e') (hg : W.grownBy W' v'.ownBlock) : W'.ownsRow base e sz v n xs := by
  obtain ⟨hl, hr⟩ := h
  refine ⟨hl, hr.imp id ?_⟩
  rintro ⟨g, cap, cur, rfl, h3, h4, h5⟩
  have hB : Blk W g e cur.toList := by unfold Blk; rw [h4]
  exact ⟨g, cap, cur, rfl, h3, (hg.block g (Array.getElem?_eq_some_iff.1 h4).1 (own_ne h' hB (fun e => hne e.symm))).trans h4, h5⟩
theorem slcsCells {w : World} {b o : Nat} {op dst src off imm : Int} (h : ∀ j, j < 5 → w.cell? ⟨b, o + j, none⟩ = some ((insC ⟨op, dst, src, off, imm⟩).getD j undef)) :
    w.cell? ⟨b, o, none⟩ = some (.int .i64 op) ∧ w.cell? ⟨b, o + 1, none⟩ = some (.int .i64 dst) ∧ w.cell? ⟨b, o + 2, none⟩ = some (.int .i64 src) ∧ w.cell? ⟨b, o + 3, none⟩ = some (.int .i64 off) ∧ w.cell? ⟨b, o + 4, none⟩ = some (.int .i64 imm) :=
  ⟨h 0 (by decide), h 1 (by decide), h 2 (by decide), h 3 (by decide), h 4 (by decide)⟩
set_option maxRecDepth 100000 in
set_option maxHeartbeats 4000000 in
theorem lawBytes_any (l0 : List InsS) {v : Value} {w : World} (hv : SlcS 5 w v (l0.map insC)) (hT : Tabs w) : Calls Tryd.prog 6 #[v] w fun e w' => e = .returned (.bool true) ∧ Keeps w w' := by
  obtain ⟨p, cap, rfl, hl, hc, hcell⟩ := hv.get
  rw [List.length_map] at hl hcell hv ⊢
  obtain ⟨n, hk⟩ : ∃ k, k = (min (l0.length : Int) 80).toNat := ⟨_, rfl⟩
  have hkl : n ≤ l0.length := by omega
  have hk4 : n ≤ 80 := by omega
  have hv2 : SlcS 5 w (.slice p n cap) ((l0.take n).map insC) := by
    have := SlcS.take hv n (by rw [List.length_map]; exact hkl)
    rw [← List.map_take] at this
    exact this
  have hlen : (l0.take n).length = n := by rw [List.length_take]; omega
  have hl0 : (0 : Int) ≤ (l0.length : Int) := by omega
  have fkn := fun (W : World) (hk : Keeps w W) => known_any W (hT.keeps hk)
  clear hv hcell
  generalize hll : l0.take n = l at *
  clear hll
  obtain ⟨_, _, hvv, hl2, _, hcell⟩ := hv2.get
  rw [List.length_map, hlen] at hvv
  rw [List.length_map] at hl2 hcell
  simp only [Value.slice.injEq] at hvv
  obtain ⟨rfl, _, rfl⟩ := hvv
  subst hlen
  replace fkn := Lib.hid fkn
  replace hcell := Lib.hid hcell
  clear hv2 hT hl2
  go_enter Tryd.func6, Tryd.ntmps6
  go_wp2_with fail
  rw [← hk]
  clear hk
  go_loopw [3, 4, 5, 6] (fun xv bv sv iv wr => ∃ (k : Nat) (M : List Int), k ≤ l.length ∧ iv = .int .i64 (k : Int) ∧ sv = .int .i64 (bytesE (l.take k)) ∧ RowS 5 w.heap.size 34 wr xv ((l.take k).map insC) ∧ wr.ownsRow w.heap.size 5 1 bv M.length (M.map (Value.int .u8)) ∧ M.length ≤ 8 * k ∧ (bytesE (l.take k) = 0 → M = (l.take k).flatMap insB) ∧ Keeps w wr) (fun _ _ _ iv _ => l.length - (intOf iv).toNat)
  case atStart => exact ⟨0, [], by omega, rfl, rfl, RowS.nil _ _ _ _, ⟨by simp, .inl ⟨rfl, rfl⟩⟩, by simp, fun _ => rfl, Keeps.refl _⟩
  case round =>
    obtain ⟨k, M, hk, rfl, rfl, hX, hW, hMl, hMe, hK⟩ := hrel
    have hk0 : (0 : Int) ≤ (k : Int) := by omega
    by_cases hlt : k < l.length
    · have hltI := Int.ofNat_lt.2 hlt
      obtain ⟨cb, off, rfl, hcx⟩ := hcell.out k hlt
      have e0 : (l.map insC).getD k [] = insC l[k] := by simp [List.getD, hlt]
      rw [e0] at hcx
      have htk : l.take (k + 1) = l.take k ++ [l[k]] := List.take_succ_eq_append_getElem hlt
      have hlk : (l.take k).length = k := by rw [List.length_take]; omega
      have hln1 : ((l.take k).map insC).length + 1 ≤ maxLen := by rw [List.length_map, hlk]; unfold maxLen; omega
      have hln2 : (((l.take k).map insC).length + 1) * 40 ≤ 140737488355328 := by rw [List.length_map, hlk]; omega
      replace hln1 := Lib.hid hln1
      replace hln2 := Lib.hid hln2
      generalize l.take k = lk at *
      generalize l[k] = x at *
      have hsn := bytesE_snoc x lk
      rw [← htk] at hsn
      have fto := to_any x
      have fck := rcheck_any x
      have fby := rbytes_any x
      generalize hsk : bytesE lk = sk at *
      generalize hsk1 : bytesE (l.take (k + 1)) = sk1 at *
      generalize her : errM x = er at *
      have hcells : ∀ W, Keeps wr W → W.cell? ⟨cb, off + k * 5, none⟩ = some (.int .i64 x.op) ∧ W.cell? ⟨cb, off + k * 5 + 1, none⟩ = some (.int .i64 x.dst) ∧ W.cell? ⟨cb, off + k * 5 + 2, none⟩ = some (.int .i64 x.src) ∧ W.cell? ⟨cb, off + k * 5 + 3, none⟩ = some (.int .i64 x.off) ∧ W.cell? ⟨cb, off + k * 5 + 4, none⟩ = some (.int .i64 x.imm) := fun W h => by
        have hu := Keeps.trans hK h
        exact ⟨kcell15 hu (hcx 0 (by decide)), kcell15 hu (hcx 1 (by decide)), kcell15 hu (hcx 2 (by decide)), kcell15 hu (hcx 3 (by decide)), kcell15 hu (hcx 4 (by decide))⟩
      have hcellsB : ∀ W, Below w.heap.size wr W → W.cell? ⟨cb, off + k * 5, none⟩ = some (.int .i64 x.op) ∧ W.cell? ⟨cb, off + k * 5 + 1, none⟩ = some (.int .i64 x.dst) ∧ W.cell? ⟨cb, off + k * 5 + 2, none⟩ = some (.int .i64 x.src) ∧ W.cell? ⟨cb, off + k * 5 + 3, none⟩ = some (.int .i64 x.off) ∧ W.cell? ⟨cb, off + k * 5 + 4, none⟩ = some (.int .i64 x.imm) := fun W h => by
        have hu : Keeps w W := Below.trans hK h
        exact ⟨kcell15 hu (hcx 0 (by decide)), kcell15 hu (hcx 1 (by decide)), kcell15 hu (hcx 2 (by decide)), kcell15 hu (hcx 3 (by decide)), kcell15 hu (hcx 4 (by decide))⟩
      obtain ⟨y0, y1, y2, y3, y4⟩ := hcells wr (Keeps.refl _)
      obtain ⟨op, dst, src, off', imm⟩ := x
      simp only [insV] at fto fck fby
      simp only at hcells hcellsB y0 y1 y2 y3 y4
      clear hcx e0 hcells
      replace fto := Lib.hid fto
      replace fck := Lib.hid fck
      replace fby := Lib.hid fby
      replace hX := Lib.hid hX
      replace hW := Lib.hid hW
      replace hMl := Lib.hid hMl
      replace hMe := Lib.hid hMe
      replace hK := Lib.hid hK
      replace hcellsB := Lib.hid hcellsB
      replace hsn := Lib.hid hsn
      replace htk := Lib.hid htk
      replace hsk := Lib.hid hsk
      replace hsk1 := Lib.hid hsk1
      replace hlk := Lib.hid hlk
      replace her := Lib.hid her
      go_wp2_with fail
      with_reducible refine (fto.out _).mono ?_
      clear y0 y1 y2 y3 y4
      rintro e w1 ⟨rfl, hK1⟩
      have hKa := Keeps.alloc w1 (.cells #[.int .i64 op, .int .i64 dst, .int .i64 src, .int .i64 off', .int .i64 imm] 34)
      have hsrc : SlcS 5 (w1.alloc (.cells #[.int .i64 op, .int .i64 dst, .int .i64 src, .int .i64 off', .int .i64 imm] 34)) (.slice (some ⟨w1.heap.size, 0, none⟩) 1 1) [insC ⟨op, dst, src, off', imm⟩] := slcs_one (Blk.new w1 34 (insC ⟨op, dst, src, off', imm⟩)) (sz := 5) rfl
      have hX1 := RowS.keepsI (RowS.keepsI hX.out hK1) hKa
      have hW1 := own_keeps (own_keeps hW.out hK1) hKa
      have hb1 : Below w.heap.size wr _ := Below.mono (Keeps.trans hK1 hKa) hK.out.size
      have hbs := Nat.le_trans hK.out.size hb1.size
      clear hX hW hK1 hKa
      replace hsrc := Lib.hid hsrc
      replace hX1 := Lib.hid hX1
      replace hW1 := Lib.hid hW1
      replace hb1 := Lib.hid hb1
      replace hbs := Lib.hid hbs
      go_wp2_with (at_builtin; refine appN rfl _ _ 44 34 _ 5 40 rfl Tryd.underlying44 infoIns rfl (by decide) w.heap.size _ _ rfl hX1.out _ [insC ⟨op, dst, src, off', imm⟩] rfl hsrc.out (fun el he => by obtain rfl := List.mem_singleton.1 he; exact insC_one _) hln1.out hln2.out hbs.out ?_; intro v2 w2 hX2 hg2 hbel2; have hW2 := own_tag hW1.out hX1.out.1 (by decide) hg2; have hb2 := Below.trans hb1.out hbel2; obtain ⟨y0, y1, y2, y3, y4⟩ := hcellsB.out w2 hb2; replace hX2 := Lib.hid hX2; replace hW2 := Lib.hid hW2; replace hb2 := Lib.hid hb2; clear hg2 hbel2 hX1 hW1 hb1 hsrc hbs)
      with_reducible refine (fck.out _).mono ?_
      clear y0 y1 y2 y3 y4
      rintro e w3 ⟨rfl, hK3⟩
      have hX3 := RowS.keepsI hX2.out hK3
      have hW3 := own_keeps hW2.out hK3
      have hb3 := Below.trans hb2.out (Below.mono hK3 (Nat.le_trans hK.out.size hb2.out.size))
      have hX3' : RowS 5 w.heap.size 34 w3 v2 ((l.take (k + 1)).map insC) := by rw [htk.out, List.map_append]; exact hX3
      clear hX2 hW2 hb2 hK3 hX3
      obtain ⟨y0, y1, y2, y3, y4⟩ := hcellsB.out w3 hb3
      replace hX3' := Lib.hid hX3'
      replace hW3 := Lib.hid hW3
      replace hb3 := Lib.hid hb3
      by_cases he : er = 0
      · have fb2 := fby.out he w3
        subst he
        have hs1 : sk1 = sk := by
          have := hsn.out
          by_cases h0 : sk = 0
          · rw [if_pos h0] at this; rw [this, h0]
          · rw [if_neg h0] at this; exact this
        have hMl2 : M.length + 8 ≤ 8 * (k + 1) := by have := hMl.out; omega
        have hnew : sk1 = 0 → M ++ insB ⟨op, dst, src, off', imm⟩ = (l.take (k + 1)).flatMap insB := fun h => by
          rw [hMe.out (hs1 ▸ h), htk.out, List.flatMap_append, List.flatMap_cons, List.flatMap_nil, List.append_nil]
        subst hs1
        obtain ⟨L, hL⟩ : ∃ L, L = insB ⟨op, dst, src, off', imm⟩ := ⟨_, rfl⟩
        rw [← hL] at fb2 hnew
        have hLl : L.length = 8 := by rw [hL]; exact insB_len _
        have hz1 : M.length + (L.map (Value.int .u8)).length ≤ maxLen := by rw [List.length_map, hLl]; unfold maxLen; omega
        have hz2 : (M.length + (L.map (Value.int .u8)).length) * 1 ≤ 140737488355328 := by rw [List.length_map, hLl]; omega
        clear hL hMe hMl hsn fck fto hsk
        replace fb2 := Lib.hid fb2
        replace hLl := Lib.hid hLl
        replace hz1 := Lib.hid hz1
        replace hz2 := Lib.hid hz2
        replace hMl2 := Lib.hid hMl2
        replace hnew := Lib.hid hnew
        by_cases h0 : sk1 = 0
        · have hsb : (sk1 == 0) = true := by rw [beq_iff_eq]; exact h0
          subst h0
          go_wp2_with fail
          refine fb2.out.mono ?_
          clear fb2 y0 y1 y2 y3 y4
          rintro e w4 ⟨v', rfl, hr4, hK4⟩
          have hW4 := own_keeps hW3.out hK4
          have hX4 := RowS.keepsI hX3'.out hK4
          have hsrc := slc_of_row hr4
          have hb4 := Below.trans hb3.out (Below.mono hK4 (Nat.le_trans hK.out.size hb3.out.size))
          have hbs := Nat.le_trans hK.out.size hb4.size
          clear hW3 hX3' hr4 hK4 hb3
          replace hW4 := Lib.hid hW4
          replace hX4 := Lib.hid hX4
          replace hsrc := Lib.hid hsrc
          replace hb4 := Lib.hid hb4
          replace hbs := Lib.hid hbs
          go_wp2_with (at_builtin; refine appS rfl _ _ 38 5 (.int .u8 0) 1 rfl Tryd.underlying38 infoU8 rfl w.heap.size _ M.length _ rfl hW4.out _ _ rfl hsrc.out (byte_ones _) hz1.out hz2.out hbs.out ?_; intro v5 w5 hW5 hg5 hbel5; have hX5 : RowS 5 w.heap.size 34 w5 v2 ((l.take (k + 1)).map insC) := ⟨own_tag hX4.out.1 hW4.out (by decide) hg5, hX4.out.2⟩; have hb5 := Below.trans hb4.out hbel5; replace hW5 := Lib.hid hW5; replace hX5 := Lib.hid hX5; replace hb5 := Lib.hid hb5; clear hg5 hbel5 hW4 hX4 hsrc hb4 hbs)
          go_roundw
          case rel =>
            refine ⟨k + 1, M ++ L, by omega, by go_num, by rw [hsk1.out], hX5.out, ?_, by rw [List.length_append, hLl.out]; exact hMl2.out, fun h => hnew.out (by first | exact trivial | exact hsk1.out.symm.trans h), Below.trans hK.out hb5.out⟩
            have := hW5.out
            rw [List.length_map, ← List.map_append, ← List.length_append] at this
            exact this
          case measure => (simp [intOf]; try omega)
        · have hsb : (sk1 == 0) = false := by rw [beq_eq_false_iff_ne]; exact h0
          replace h0 := Lib.hid h0
          go_wp2_with fail
          refine fb2.out.mono ?_
          clear fb2 y0 y1 y2 y3 y4
          rintro e w4 ⟨v', rfl, hr4, hK4⟩
          have hW4 := own_keeps hW3.out hK4
          have hX4 := RowS.keepsI hX3'.out hK4
          have hsrc := slc_of_row hr4
          have hb4 := Below.trans hb3.out (Below.mono hK4 (Nat.le_trans hK.out.size hb3.out.size))
          have hbs := Nat.le_trans hK.out.size hb4.size
          clear hW3 hX3' hr4 hK4 hb3
          replace hW4 := Lib.hid hW4
          replace hX4 := Lib.hid hX4
          replace hsrc := Lib.hid hsrc
          replace hb4 := Lib.hid hb4
          replace hbs := Lib.hid hbs
          go_wp2_with (at_builtin; refine appS rfl _ _ 38 5 (.int .u8 0) 1 rfl Tryd.underlying38 infoU8 rfl w.heap.size _ M.length _ rfl hW4.out _ _ rfl hsrc.out (byte_ones _) hz1.out hz2.out hbs.out ?_; intro v5 w5 hW5 hg5 hbel5; have hX5 : RowS 5 w.heap.size 34 w5 v2 ((l.take (k + 1)).map insC) := ⟨own_tag hX4.out.1 hW4.out (by decide) hg5, hX4.out.2⟩; have hb5 := Below.trans hb4.out hbel5; replace hW5 := Lib.hid hW5; replace hX5 := Lib.hid hX5; replace hb5 := Lib.hid hb5; clear hg5 hbel5 hW4 hX4 hsrc hb4 hbs)
          go_roundw
          case rel =>
            refine ⟨k + 1, M ++ L, by omega, by go_num, by rw [hsk1.out], hX5.out, ?_, by rw [List.length_append, hLl.out]; exact hMl2.out, fun h => hnew.out (by first | exact trivial | exact hsk1.out.symm.trans h), Below.trans hK.out hb5.out⟩
            have := hW5.out
            rw [List.length_map, ← List.map_append, ← List.length_append] at this
            exact this
          case measure => (simp [intOf]; try omega)
      · have heb : (er == 0) = false := by rw [beq_eq_false_iff_ne]; exact he
        by_cases h0 : sk = 0
        · have hsb : (sk == 0) = true := by rw [beq_iff_eq]; exact h0
          have hs1 : sk1 = er := by have := hsn.out; rw [if_pos h0] at this; exact this
          have hne : ¬ sk1 = 0 := by rw [hs1]; exact he
          subst h0 hs1
          replace hne := Lib.hid hne
          replace he := Lib.hid he
          clear y0 y1 y2 y3 y4 fby fck fto hMe hsn
          go_wp2_with fail
          go_roundw
          case rel => exact ⟨k + 1, M, by omega, by go_num, by rw [hsk1.out], hX3'.out, hW3.out, by have := hMl.out; omega, fun h => absurd (hsk1.out.symm.trans h) hne.out, Below.trans hK.out hb3.out⟩
          case measure => (simp [intOf]; try omega)
        · have hsb : (sk == 0) = false := by rw [beq_eq_false_iff_ne]; exact h0
          have hs1 : sk1 = sk := by have := hsn.out; rw [if_neg h0] at this; exact this
          have hne : ¬ sk1 = 0 := by rw [hs1]; exact h0
          subst hs1
          replace hne := Lib.hid hne
          replace he := Lib.hid he
          replace h0 := Lib.hid h0
          clear y0 y1 y2 y3 y4 fby fck fto hMe hsn
          go_wp2_with fail
          go_roundw
          case rel => exact ⟨k + 1, M, by omega, by go_num, by rw [hsk1.out], hX3'.out, hW3.out, by have := hMl.out; omega, fun h => absurd (hsk1.out.symm.trans h) hne.out, Below.trans hK.out hb3.out⟩
          case measure => (simp [intOf]; try omega)
    · have hke : k = l.length := by omega
      have hltI : ¬ (k : Int) < (l.length : Int) := by omega
      rw [hke, List.take_length] at hX hMe
      rw [hke, List.take_length]
      have hsx := hX.slcs
      have hsw := slc_of_row hW
      have fb := bytes_any l (by omega) _ _ hsx
      obtain ⟨xq, xc, rfl, hxl, hxc, hcellx⟩ := hsx.get
      rw [List.length_map] at hxl hcellx hsx fb hX ⊢
      obtain ⟨q4, c4, rfl, hwl, hwc, _⟩ := id hsw
      rw [List.length_map] at hwl hsw hW ⊢
      have hwm : M.length ≤ 640 := by omega
      clear hX hW hMl hke
      generalize hsk : bytesE l = sk at *
      by_cases h0 : sk = 0
      · have hM := hMe h0
        have hpm := parse_insBs (hsk.trans h0)
        rw [if_pos h0] at fb
        have hBl := insBs_len l
        have hBr : ∀ z ∈ l.flatMap insB, 0 ≤ z ∧ z < 256 := fun z hz => by
          obtain ⟨i, _, hi⟩ := List.mem_flatMap.1 hz
          exact insB_rng i z hi
        subst hM h0
        clear hMe
        have hse : (l.length : Int) * 8 ≤ 640 := by omega
        have hLm : (l.flatMap insB).length ≤ 640 := by omega
        clear hBl hse
        generalize l.flatMap insB = L at *
        replace fb := Lib.hid fb
        replace hK := Lib.hid hK
        replace hsw := Lib.hid hsw
        replace hcellx := Lib.hid hcellx
        replace hsk := Lib.hid hsk
        clear hsx
        go_wp2_with fail
        refine fb.out.mono ?_
        clear fb
        rintro e w1 ⟨v8, rfl, hv8, hK1⟩
        have fp := parse_any L (by omega) hBr v8 w1 hv8
        rw [hpm] at fp
        obtain ⟨q8, c8, rfl, hb8, hbc, _⟩ := id hv8
        rw [List.length_map] at hb8 hv8 fp ⊢
        replace fp := Lib.hid fp
        replace hv8 := Lib.hid hv8
        have hKb := hK.out.trans hK1
        have hsw1 := Slc.below hsw.out hK1
        replace hsw1 := Lib.hid hsw1
        replace hK1 := Lib.hid hK1
        replace hKb := Lib.hid hKb
        clear hsw hpm hBr
        go_wp2_with fail
        refine fp.out.mono ?_
        clear fp
        rintro e w2 ⟨v10, rfl, hv10, hK2⟩
        obtain ⟨q10, c10, rfl, hl10, hc10, hcelly⟩ := hv10.get
        simp only [List.length_map] at hl10 hcelly hv10 ⊢
        have fs := same_any L L _ _ w2 (Byts.keeps hv8.out hK2) (Slc.below hsw1.out hK2)
        rw [sameL_self] at fs
        have hKc := hKb.out.trans hK2
        have hK12 := hK1.out.trans hK2
        replace fs := Lib.hid fs
        replace hKc := Lib.hid hKc
        replace hK12 := Lib.hid hK12
        replace hcelly := Lib.hid hcelly
        clear hv8 hsw1 hv10 hK2 hKb hK1
        go_wp2_with fail
        refine fs.out.mono ?_
        clear fs
        rintro e w3 ⟨rfl, hK3⟩
        have hKd := hKc.out.trans hK3
        have hK13 := hK12.out.trans hK3
        replace hKd := Lib.hid hKd
        replace hK13 := Lib.hid hK13
        replace hK3 := Lib.hid hK3
        clear hKc hK12
        go_wp2_with fail
        go_loopw [13] (fun iv w5 => ∃ j : Nat, j ≤ l.length ∧ iv = .int .i64 (j : Int) ∧ Keeps w3 w5) (fun iv _ => l.length - (intOf iv).toNat)
        case atStart => exact ⟨0, by omega, rfl, Keeps.refl _⟩
        case round =>
          obtain ⟨j, hj, rfl, hKj⟩ := hrel
          have hj0 : (0 : Int) ≤ (j : Int) := by omega
          by_cases hlt : j < l.length
          · have hltI := Int.ofNat_lt.2 hlt
            obtain ⟨ub, uo, rfl, hcu⟩ := hcelly.out j hlt
            obtain ⟨vb, vo, rfl, hcv⟩ := hcellx.out j hlt
            have e0 : (l.map insC).getD j [] = insC l[j] := by simp [List.getD, hlt]
            rw [e0] at hcu hcv
            generalize l[j] = e at hcu hcv
            obtain ⟨op, dst, src, off, imm⟩ := e
            have hh := Lib.hid (show ∀ w' : World, Keeps wr w' → (w'.cell? ⟨ub, uo + j * 5, none⟩ = some (.int .i64 op) ∧ w'.cell? ⟨ub, uo + j * 5 + 1, none⟩ = some (.int .i64 dst) ∧ w'.cell? ⟨ub, uo + j * 5 + 2, none⟩ = some (.int .i64 src) ∧ w'.cell? ⟨ub, uo + j * 5 + 3, none⟩ = some (.int .i64 off) ∧ w'.cell? ⟨ub, uo + j * 5 + 4, none⟩ = some (.int .i64 imm) ∧ w'.cell? ⟨vb, vo + j * 5, none⟩ = some (.int .i64 op) ∧ w'.cell? ⟨vb, vo + j * 5 + 1, none⟩ = some (.int .i64 dst) ∧ w'.cell? ⟨vb, vo + j * 5 + 2, none⟩ = some (.int .i64 src) ∧ w'.cell? ⟨vb, vo + j * 5 + 3, none⟩ = some (.int .i64 off) ∧ w'.cell? ⟨vb, vo + j * 5 + 4, none⟩ = some (.int .i64 imm)) from fun w' h => by
              have hu' := Keeps.trans hK3.out (Keeps.trans hKj h)
              have hv' := Keeps.trans hK13.out (Keeps.trans hKj h)
              exact ⟨kcell15 hu' (hcu 0 (by decide)), kcell15 hu' (hcu 1 (by decide)), kcell15 hu' (hcu 2 (by decide)), kcell15 hu' (hcu 3 (by decide)), kcell15 hu' (hcu 4 (by decide)), kcell15 hv' (hcv 0 (by decide)), kcell15 hv' (hcv 1 (by decide)), kcell15 hv' (hcv 2 (by decide)), kcell15 hv' (hcv 3 (by decide)), kcell15 hv' (hcv 4 (by decide))⟩)
            have hKe := Lib.hid (Keeps.trans hKj (Keeps.drew wr))
            clear hcu hcv e0 hKj
            go_upto_region 23 with (fail)
            go_region_held3 (fun w' => w'.cell? ⟨ub, uo + j * 5, none⟩ = some (.int .i64 op) ∧ w'.cell? ⟨ub, uo + j * 5 + 1, none⟩ = some (.int .i64 dst) ∧ w'.cell? ⟨ub, uo + j * 5 + 2, none⟩ = some (.int .i64 src) ∧ w'.cell? ⟨ub, uo + j * 5 + 3, none⟩ = some (.int .i64 off) ∧ w'.cell? ⟨ub, uo + j * 5 + 4, none⟩ = some (.int .i64 imm) ∧ w'.cell? ⟨vb, vo + j * 5, none⟩ = some (.int .i64 op) ∧ w'.cell? ⟨vb, vo + j * 5 + 1, none⟩ = some (.int .i64 dst) ∧ w'.cell? ⟨vb, vo + j * 5 + 2, none⟩ = some (.int .i64 src) ∧ w'.cell? ⟨vb, vo + j * 5 + 3, none⟩ = some (.int .i64 off) ∧ w'.cell? ⟨vb, vo + j * 5 + 4, none⟩ = some (.int .i64 imm))
              (first
                | (refine hh.out _ ?_; exact Keeps.drew _)
                | go_keep)
              (fail)
            clear hh
            go_wp2_with fail
            go_roundw
            case rel => exact ⟨j + 1, by omega, by go_num, hKe.out⟩
            case measure => (simp [intOf]; try omega)
          · have hltI : ¬ (j : Int) < (l.length : Int) := by omega
            have hKf := hKd.out.trans hKj
            have fk2 := fkn.out _ hKf
            replace hKf := Lib.hid hKf
            clear hKj
            go_wp2_with fail
            refine fk2.mono ?_
            clear fk2
            rintro e w6 ⟨rfl, hK6⟩
            have hKg := Lib.hid (hKf.out.trans hK6)
            go_wp2_with fail
            go_ret
            exact ⟨rfl, hKg.out⟩
      · have hsb : (sk == 0) = false := by rw [beq_eq_false_iff_ne]; exact h0
        have hsb2 : (sk != 0) = true := by rw [bne, hsb]; rfl
        rw [if_neg h0] at fb
        replace fb := Lib.hid fb
        replace hK := Lib.hid hK
        replace h0 := Lib.hid h0
        clear hsx hsw hcellx hMe hsk
        go_wp2_with fail
        refine fb.out.mono ?_
        clear fb
        rintro e w1 ⟨v8, rfl, hv8, hK1⟩
        obtain ⟨q8, c8, rfl, hb8, hbc, _⟩ := id hv8
        have hKb := hK.out.trans hK1
        have fk2 := fkn.out _ hKb
        replace hKb := Lib.hid hKb
        simp only [List.map_nil, List.length_nil] at hb8 hv8 ⊢
        clear hv8 hK1
        go_wp2_with fail
        refine fk2.mono ?_
        clear fk2
        rintro e w6 ⟨rfl, hK6⟩
        have hKg := Lib.hid (hKb.out.trans hK6)
        go_wp2_with fail
        go_ret
        exact ⟨rfl, hKg.out⟩
end Go.Proofs.YtmmglikbajiepaaDoor
