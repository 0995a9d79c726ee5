/- Poll of detentref10: its order, its looks. -/
import Derived.Test.YtpncnddlmlciaaaDoorRef10d
import Derived.Deep.DeepCutAuto
namespace Go.Proofs.YtpncnddlmlciaaaDoor
open Go.RowKit Go.Shelf

def ordTo (m p k : Nat) : List Nat := ((circ p).take k).filter (m.testBit ·)
theorem ordTo_end (m p : Nat) : ordTo m p 64 = orderN m p := by unfold ordTo orderN; rw [List.take_of_length_le (by rw [circ_len]; exact Nat.le_refl _)]
theorem ordTo_succ (m p k : Nat) (hk : k < 64) : ordTo m p (k + 1) = ordTo m p k ++ (if m.testBit ((p + k) % 64) = true then [(p + k) % 64] else []) := by
  unfold ordTo
  rw [List.take_succ_eq_append_getElem (by rw [circ_len]; exact hk), List.filter_append, circ_get]
  congr 1
  cases h : m.testBit ((p + k) % 64) <;> simp [h]
theorem ordTo_len (m p k : Nat) : (ordTo m p k).length ≤ k := by unfold ordTo; exact Nat.le_trans (List.length_filter_le _ _) (by simp; omega)

/-- Bools lie in no block of fewer than 64 cells. -/
theorem Bools.sep {W : World} {v : Value} {m g : Nat} {t : TypeId} {cs : List Value} (h : Bools W v m) (hB : Blk W g t cs) (hl : cs.length < 64) : ∀ c, v.ownBlock = some c → c ≠ g := by
  obtain ⟨vb, off, cap, rfl, _, _, _, hcell⟩ := h.open
  intro c hc e
  simp only [Value.ownBlock, Option.some.injEq] at hc
  subst hc e
  have h1 := hcell 63 (by omega)
  have h2 : (off + 63) < cs.length := by
    simp only [World.cell?, show W.heap[vb]? = _ from hB] at h1
    simp only [List.getElem?_toArray] at h1
    exact (List.getElem?_eq_some_iff.1 h1).1
  omega
theorem foldl_take_succ {α β : Type} (f : β → α → β) (c : β) (l : List α) (k : Nat) (h : k < l.length) : (l.take (k + 1)).foldl f c = f ((l.take k).foldl f c) l[k] := by
  rw [List.take_succ_eq_append_getElem h, List.foldl_append]; rfl
theorem docFold_began (S : SSt) : ∀ (l : List Nat) (c : ScSt), (l.foldl (docStep S) c).began = c.began
  | [], _ => rfl
  | r :: l, c => by rw [List.foldl_cons, docFold_began S l]; exact look_began c S r
theorem row_own {w : World} {base : Nat} {e : TypeId} {v : Value} {n : Nat} {xs : List Value} (h : w.ownsRow base e 1 v n xs) : ∀ b, v.ownBlock = some b → base ≤ b := by
  intro b hb
  rcases h.2 with ⟨rfl, _⟩ | ⟨g, cap, cur, rfl, hg, _⟩
  · simp [Value.ownBlock] at hb
  · obtain rfl : g = b := by simpa [Value.ownBlock] using hb
    exact hg
/-- What holds in Poll's second loop. -/
structure PollI (w : World) (c : ScSt) (l : List (Int × Bool)) (O : List Nat) (q : Option Addr) (ocap : Nat) (j : Nat) (v2 : Value) (W : World) : Prop where
  blk : Blk W w.heap.size 50 (scCells c.began ((O.take j).foldl (docStep (runD l)) c).place v2)
  bools : Bools W v2 ((O.take j).foldl (docStep (runD l)) c).left
  res : Blk W (w.heap.size + 1) 50 (scCells 0 0 (.slice none 0 0))
  ord : Slc W (.slice q O.length ocap) (natInts O)
  sep : ∀ ad, q = some ad → ad.block ≠ w.heap.size
  keeps : Keeps w W
theorem PollI.kept {w : World} {c : ScSt} {l : List (Int × Bool)} {O : List Nat} {q : Option Addr} {ocap j : Nat} {v2 : Value} {W W' : World} (h : PollI w c l O q ocap j v2 W) (hk : Keeps W W') : PollI w c l O q ocap j v2 W' :=
  ⟨h.blk.keeps hk, h.bools.keeps hk, h.res.keeps hk, Slc.below h.ord hk, h.sep, Keeps.trans h.keeps hk⟩
theorem PollI.far {w : World} {c : ScSt} {l : List (Int × Bool)} {O : List Nat} {q : Option Addr} {ocap j : Nat} {v2 : Value} {W : World} (h : PollI w c l O q ocap j v2 W) (hO : 0 < O.length) : ∃ b off, q = some ⟨b, off, none⟩ ∧ b ≠ w.heap.size ∧ ∀ k, (hk : k < O.length) → W.cell? ⟨b, off + k, none⟩ = some (.int .i64 (O[k] : Nat)) := by
  obtain ⟨q', cap', hv, _, _, _, hc⟩ := h.ord
  rw [natInts_len] at hv hc
  obtain ⟨rfl, -, rfl⟩ : q = q' ∧ True ∧ ocap = cap' := by simp at hv; exact ⟨hv.1, trivial, hv.2⟩
  obtain ⟨b, off, rfl, h0⟩ := hc 0 hO
  refine ⟨b, off, rfl, h.sep _ rfl, fun k hk => ?_⟩
  · obtain ⟨b', off', e, h1⟩ := hc k hk
    obtain ⟨rfl, rfl⟩ : b = b' ∧ off = off' := by simpa using e
    rw [h1]; simp [natInts, List.getD, hk]
/-- The next look. -/
theorem PollI.next {w : World} {c : ScSt} {l : List (Int × Bool)} {O : List Nat} {q : Option Addr} {ocap j : Nat} {v2 v3 : Value} {W W2 W3 : World} (h : PollI w c l O q ocap j v2 W) (hj : j < O.length) (hk : Keeps W W2)
    (hb : Bools W2 v3 (look (runD l) ((O.take j).foldl (docStep (runD l)) c) (O[j] : Nat)).left)
    (hC : Chg (· = w.heap.size) W2 W3)
    (hB : Blk W3 w.heap.size 50 (scCells c.began (((O[j] : Nat) + 1) % 64 : Nat) v3)) : PollI w c l O q ocap (j + 1) v3 W3 := by
  have h2 := h.kept hk
  have hne := hb.sep h2.blk (by simp [scCells])
  have e := foldl_take_succ (docStep (runD l)) c O j hj
  refine ⟨?_, ?_, h2.res.chg hC (by omega), Slc.chg h2.ord hC (fun b hb' => ?_), h.sep, Chg.keeps hC h2.keeps (fun k hk => by omega)⟩
  · rw [e]; exact hB
  · rw [e]; exact Slc.chg hb hC hne
  · cases q with
    | none => cases hb'
    | some ad =>
      have := h.sep ad rfl
      simp only [Value.ownBlock, Option.some.injEq] at hb'
      rw [← hb']; exact this
set_option maxRecDepth 100000 in
set_option maxHeartbeats 2000000 in
theorem r10Poll_any (c : ScSt) (hp : c.place < 64) (v u : Value) (l : List (Int × Bool)) (n : Int) (w : World) (hv : Bools w v c.left) (hu : Deeds w u l) (hg : Good l) (hl : l.length ≤ 100000) :
    Calls Tryd.prog 20 #[.agg (scCells c.began c.place v).toArray, u, .int .i64 n] w fun e w' => ∃ v2, e = .returned (.agg (scCells c.began (poll (runD l) c n).place v2).toArray) ∧ Bools w' v2 (poll (runD l) c n).left ∧ Keeps w w' := by
  obtain ⟨up, uc, rfl, _⟩ := hu.get
  obtain ⟨vb, off, cap, rfl, h64, hcm, hvlt, hcell⟩ := hv.open
  obtain ⟨m, hm⟩ : ∃ m, m = c.left := ⟨_, rfl⟩
  obtain ⟨p, hpe⟩ : ∃ p, p = c.place := ⟨_, rfl⟩
  obtain ⟨b, hbe⟩ : ∃ b, b = c.began := ⟨_, rfl⟩
  rw [← hm] at hcell
  rw [← hpe, ← hbe]
  rw [← hpe] at hp
  replace hcell := Lib.hid hcell
  replace hv := Lib.hid hv
  replace hu := Lib.hid hu
  replace hg := Lib.hid hg
  replace hm := Lib.hid hm
  replace hpe := Lib.hid hpe
  replace hbe := Lib.hid hbe
  go_enter Tryd.func20, Tryd.ntmps20
  go_upto_region 1 with (fail)
  refine wp_gen (fun W => Blk W w.heap.size 50 (scCells b p (.slice (some ⟨vb, off, none⟩) 64 cap)) ∧ Blk W (w.heap.size + 1) 50 (scCells 0 0 (.slice none 0 0)) ∧ Keeps w W) ⟨(Blk.new _ _ _).alloc _, Blk.at (by simp) rfl, (Keeps.alloc _ _).trans (Keeps.alloc _ _)⟩ ?_
  rintro W ⟨hB, hB6, hK⟩
  have hblt := hB6.lt
  replace hB := Lib.hid hB
  replace hB6 := Lib.hid hB6
  replace hK := Lib.hid hK
  go_wp2_with fail
  go_loopw [7, 8] (fun o i wr => ∃ k : Nat, k ≤ 64 ∧ i = .int .i64 k ∧ wr.ownsRow W.heap.size 3 1 o (ordTo m p k).length (natInts (ordTo m p k)) ∧ Keeps W wr) (fun _ i _ => 64 - (intOf i).toNat)
  case atStart => exact ⟨0, by omega, rfl, World.ownsRow_nil _ _ _ _, Keeps.refl _⟩
  case round =>
    obtain ⟨k, hk, rfl, hrow, hK1⟩ := hrel
    by_cases hlt : k < 64
    · have ck := ((Keeps.trans hK.out hK1).cell (p := ⟨vb, off + (p + k) % 64, none⟩) hvlt).trans (hcell.out ((p + k) % 64) (Nat.mod_lt _ (by decide)))
      have hB1 := hB.out.keeps hK1
      have c1 := hB1.cell 1 (by simp [scCells])
      have c2 := hB1.cell 2 (by simp [scCells])
      simp only [scCells, List.getElem_cons_succ, List.getElem_cons_zero] at c1 c2
      have hmod : ((p : Int) + (k : Int)).tmod 64 = (((p + k) % 64 : Nat) : Int) := by rw [Int.tmod_eq_emod_of_nonneg (by omega)]; omega
      have hs := ordTo_succ m p k hlt
      have hul := ordTo_len m p k
      have hx64 : (p + k) % 64 < 64 := Nat.mod_lt _ (by decide)
      generalize (p + k) % 64 = x at *
      replace hB := Lib.hid hB
      clear hB1
      cases hb : m.testBit x with
      | true =>
        rw [hb] at ck
        rw [hb, if_pos rfl] at hs
        replace hs := Lib.hid hs
        replace hb := Lib.hid hb
        go_wp2_with (at_builtin; refine app1 rfl _ _ 23 3 (.int .i64 0) 8 rfl Tryd.underlying23 infoInt rfl W.heap.size _ _ _ rfl hrow _ rfl rfl (by unfold maxLen; omega) (by omega) hK1.size ?_; intro g cap w1 hown' hgrow hbel)
        go_roundw
        case rel =>
          refine ⟨k + 1, by omega, by go_num, ?_, Below.trans hK1 hbel⟩
          rw [hs.out, List.length_append, natInts, List.map_append]
          exact hown'
        case measure => (simp [intOf]; try omega)
      | false =>
        rw [hb] at ck
        rw [hb, if_neg (by decide), List.append_nil] at hs
        replace hs := Lib.hid hs
        replace hb := Lib.hid hb
        go_wp2_with fail
        go_roundw
        case rel => exact ⟨k + 1, by omega, by go_num, by rw [hs.out]; exact hrow, hK1⟩
        case measure => (simp [intOf]; try omega)
    · obtain rfl : k = 64 := by omega
      rw [ordTo_end] at hrow
      have hOlt : ∀ r ∈ orderN m p, r < 64 := fun r hr => by
        unfold orderN circ at hr
        simp only [List.mem_filter, List.mem_map, List.mem_range] at hr
        obtain ⟨⟨j, _, rfl⟩, _⟩ := hr
        exact Nat.mod_lt _ (by decide)
      have hdoc := poll_doc (runD l) c (by rw [← hpe.out]; exact hp) n
      rw [← hm.out, ← hpe.out] at hdoc
      have hOlen : (orderN m p).length ≤ 64 := by rw [← ordTo_end]; exact ordTo_len m p 64
      generalize orderN m p = O at *
      have hsep := row_own hrow
      obtain ⟨q, ocap, rfl, hocl, hocm, hon, hoc⟩ := slc_of_row hrow
      rw [natInts_len] at hocl hoc
      rw [natInts_len] at *
      unfold maxLen at hocm
      replace hdoc := Lib.hid hdoc
      replace hOlt := Lib.hid hOlt
      replace hon := Lib.hid hon
      have hK1' := hK1
      replace hK1 := Lib.hid hK1
      have hosl : Slc wr (.slice q O.length ocap) (natInts O) := slc_of_row hrow
      replace hosl := Lib.hid hosl
      replace hsep := Lib.hid hsep
      clear hrow hoc
      obtain ⟨wo, rfl⟩ : ∃ wo : World, wo = wr := ⟨_, rfl⟩
      go_wp2_with fail
      have hB := hB.out.keeps hK1'
      have hB6 := hB6.out.keeps hK1'
      have hKw : Keeps w wo := Keeps.trans hK.out hK1'
      have hWo : w.heap.size + 1 < W.heap.size := hblt
      have hbo := hv.out.keeps hKw
      replace hB := Lib.hid hB
      replace hB6 := Lib.hid hB6
      replace hKw := Lib.hid hKw
      replace hbo := Lib.hid hbo
      clear hK1' hK1 hK hcell
      go_loopw [10] (fun i wr => ∃ (j : Nat) (v2 : Value), j ≤ O.length ∧ i = .int .i64 j ∧ (j : Int) ≤ max n 0 ∧ PollI w c l O q ocap j v2 wr) (fun i _ => O.length - (intOf i).toNat)
      case atStart => exact ⟨0, .slice (some ⟨vb, off, none⟩) 64 cap, Nat.zero_le _, rfl, by omega, ⟨by rw [List.take_zero, List.foldl_nil, ← hbe.out, ← hpe.out]; exact hB.out, by rw [List.take_zero, List.foldl_nil]; exact hbo.out, hB6.out, hosl.out, fun ad e => by have := hsep.out ad.block (by rw [e]; rfl); omega, hKw.out⟩⟩
      case round =>
        clear hB hB6 hKw hbo hv hm hpe hosl hsep hon
        obtain ⟨j, v2, hj, rfl, hjn, hI⟩ := hrel
        by_cases hlt : j < O.length ∧ (j : Int) < n
        · obtain ⟨hlt, hltn⟩ := hlt
          obtain ⟨ob, ooff, rfl, hne, hoc⟩ := hI.far (by omega)
          have co := hoc j hlt
          clear hoc
          have h64 := hOlt.out _ (List.getElem_mem hlt)
          have hnext := fun (v3 : Value) (W2 W3 : World) => hI.next (v3 := v3) (W2 := W2) (W3 := W3) hlt
          have hcb := hI.blk
          have hlook := fun (W2 : World) (hk : Keeps wr W2) => r10Look_any ((O.take j).foldl (docStep (runD l)) c) v2 _ l (O[j] : Nat) W2 (hI.bools.keeps hk) (hu.out.keeps (Keeps.trans hI.keeps hk)) hg.out hl
          have hI2 := hI
          rw [docFold_began] at hlook
          generalize (O.take j).foldl (docStep (runD l)) c = cj at *
          obtain ⟨r, hr⟩ : ∃ r, r = O[j] := ⟨_, rfl⟩
          rw [← hr] at co h64 hlook hnext
          replace hlook : ∀ (W2 : World), Keeps wr W2 → Calls Tryd.prog 22 #[.agg #[.int .i64 c.began, .int .i64 cj.place, v2], .slice up l.length uc, .int .i64 (r : Nat)] W2 fun e w' => ∃ v3, e = .returned (.tuple #[.agg #[.int .i64 c.began, .int .i64 cj.place, v3], .bool (lookB (runD l) cj (r : Nat))]) ∧ Bools w' v3 (look (runD l) cj (r : Nat)).left ∧ Keeps W2 w' := hlook
          replace hr := Lib.hid hr
          replace hI := Lib.hid hI
          replace hI2 := Lib.hid hI2
          replace hlook := Lib.hid hlook
          replace hnext := Lib.hid hnext
          replace hcb := Lib.hid hcb
          have hhlt := hI.out.res.lt
          go_upto_region 11 with (fail)
          go_cut [] (fun wx => ∃ (W2 : World) (v3 : Value), Keeps wr W2 ∧ Bools W2 v3 (look (runD l) cj (r : Nat)).left ∧ Chg (· = w.heap.size) W2 wx ∧ Blk wx w.heap.size 50 (scCells c.began cj.place v3))
          case first =>
            have hc0 := hcb.out.cell 0 (by simp [scCells])
            have hc1 := hcb.out.cell 1 (by simp [scCells])
            have hc2 := hcb.out.cell 2 (by simp [scCells])
            simp only [scCells, List.getElem_cons_succ, List.getElem_cons_zero] at hc0 hc1 hc2
            go_region_with
              (first | (go_at_call 22; with_reducible refine (hlook.out _ (Keeps.drew _)).mono ?_; rintro e W2 ⟨v3, rfl, hb3, hk3⟩; obtain ⟨vb3, off3, cap3, rfl, _, _, _, _⟩ := hb3.open; have hb2 := hcb.out.keeps (Keeps.trans (Keeps.drew _) hk3); have d0 := hb2.cell 0 (by simp [scCells]); have d1 := hb2.cell 1 (by simp [scCells]); have d2 := hb2.cell 2 (by simp [scCells]); have f0 := hb2.frozen 0; have f1 := hb2.frozen 1; have f2 := hb2.frozen 2; simp only [scCells, List.getElem_cons_succ, List.getElem_cons_zero] at d0 d1 d2; replace hb2 := Lib.hid hb2; replace hb3 := Lib.hid hb3; replace hk3 := Lib.hid hk3))
            all_goals
              go_wp2_with fail
              go_meet
              exact ⟨_, _, Keeps.trans (Keeps.drew _) hk3.out, hb3.out, ((Chg.setCell (S := (· = w.heap.size)) 0 _ rfl).trans (Chg.setCell (S := (· = w.heap.size)) 1 _ rfl)).trans (Chg.setCell (S := (· = w.heap.size)) 2 _ rfl), ((hb2.out.set 0 _).set 1 _).set 2 _⟩
          case rest =>
            obtain ⟨W2, v3, hk2, hb2, hC, hBx⟩ := hcut
            have e1 := hBx.cell 1 (by simp [scCells])
            have f1 := hBx.frozen 1
            simp only [scCells, List.getElem_cons_succ, List.getElem_cons_zero] at e1
            have co2 : wc.cell? ⟨ob, ooff + j, none⟩ = some (.int .i64 (r : Nat)) := (World.cell?_of_block (w := wr) (a := ⟨ob, ooff + j, none⟩) ((hC.block ob (by have := hk2.size; have := cell_lt co; simp only at this; omega) hne).trans (hk2.block ob (cell_lt co)))).trans co
            have hfin := hnext.out v3 W2 (wc.setCell ⟨w.heap.size, 1, none⟩ (.int .i64 (((r + 1) % 64 : Nat) : Int))) hk2 hb2 (hC.trans (Chg.setCell (S := (· = w.heap.size)) _ _ rfl)) (hBx.set 1 _)
            rw [show (((r + 1) % 64 : Nat) : Int) = ((r : Int) + 1) % 64 by omega] at hfin
            replace hfin := Lib.hid hfin
            clear hk2 hb2 hC hBx co hnext hcb hlook
            go_wp2_with fail
            go_roundw
            case rel => exact ⟨j + 1, v3, by omega, by go_num, by omega, hfin.out⟩
            case measure => (simp [intOf]; try omega)
        · have hcb := hI.blk
          have hI2 := hI
          have hlast : (O.take j).foldl (docStep (runD l)) c = Proofs.YtpncnddlmlciaaaDoor.poll (runD l) c n := by
            rw [hdoc.out]
            congr 1
            by_cases h1 : j < O.length
            · congr 1; omega
            · rw [List.take_of_length_le (by omega), List.take_of_length_le (by omega)]
          have hcb2 := hI.blk
          have hbl := hI.bools
          have hrs := hI.res
          have hkk := hI.keeps
          rw [hlast] at hcb2 hbl
          replace hlast := Lib.hid hlast
          have hres := hrs.lt
          have fin := fun (cs : List Value) => hrs.setRow cs
          have hkf : ∀ cs : Array Value, Keeps w (wr.setRow (w.heap.size + 1) cs) := fun cs => Chg.keeps (S := fun k => k = w.heap.size + 1) (Chg.setRow _ rfl) hkk (fun k hk => by omega)
          have hbf : ∀ cs : Array Value, Bools (wr.setRow (w.heap.size + 1) cs) v2 (Proofs.YtpncnddlmlciaaaDoor.poll (runD l) c n).left := fun cs => Slc.chg hbl (Chg.setRow (S := fun k => k = w.heap.size + 1) _ rfl) (hbl.sep hrs (by simp [scCells]))
          have hone := hbl.one
          replace hcb2 := Lib.hid hcb2
          replace hrs := Lib.hid hrs
          replace fin := Lib.hid fin
          replace hkf := Lib.hid hkf
          replace hbf := Lib.hid hbf
          replace hI := Lib.hid hI
          replace hone := Lib.hid hone
          clear hI2 hcb hbl hkk
          have hcase : (¬ j < O.length ∧ j = O.length) ∨ (j < O.length ∧ ¬ (j : Int) < n) := by omega
          rcases hcase with ⟨h1, h2⟩ | ⟨h1, h2⟩
          all_goals
            try subst h2
            go_wp2_with (first | (refine loadS hcb2.out rfl _ rfl rfl ?_) | (refine storeS hrs.out hone.out rfl _ _ rfl rfl rfl rfl ?_))
            refine bodyPost_ret (results_row rfl _ (fin.out _) rfl _ Tryd.underlying50 rfl 3 sizeSc rfl) rfl ⟨v2, ?_, hbf.out _, hkf.out _⟩
            rw [hbe.out]
end Go.Proofs.YtpncnddlmlciaaaDoor
