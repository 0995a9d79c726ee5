/- Arenas of integers: Set, Free, Len, Room. -/
import Derived.Test.YtanidaepfepppaaDoorAr4I
namespace Go.Proofs.YtanidaepfepppaaDoor.ArI
open Go.RowKit Go.Proofs.YtanidaepfepppaaDoor

/-- Another thing at a handle. -/
def setX (l : List (Slot El)) (s g : Int) (x : El) : List (Slot El) := if findE l s g = 0 then l.modify s.toNat fun t => ⟨t.gen, t.used, x⟩ else l
theorem setAt_used (l : List (Slot El)) (i : Nat) (hi : i < l.length) (x : El) : usedM (l.set i ⟨l[i].gen, l[i].used, x⟩) = usedM l ∧ freeM (l.set i ⟨l[i].gen, l[i].used, x⟩) = freeM l := by
  unfold usedM freeM
  constructor
  · congr 1
    apply List.ext_getElem
    · simp
    · intro j h1 h2
      simp only [List.getElem_map, List.getElem_set]
      split
      · rename_i e; subst e; rfl
      · rfl
  · congr 1
    apply List.ext_getElem
    · simp
    · intro j h1 h2
      simp only [List.getElem_map, List.getElem_set]
      split
      · rename_i e; subst e; rfl
      · rfl
set_option maxRecDepth 100000 in
set_option maxHeartbeats 400000 in
theorem set_nil (s g : Int) (x : El) (w : World) : Calls Tryd.prog 25 #[.pointer none, .agg #[.int .i64 s, .int .i64 g], .int .i64 x] w fun e w' => e = .returned (.int .i64 6) ∧ Keeps w w' := by
  go_enter Tryd.func25, Tryd.ntmps25
  go_wp2_with fail
  refine (find_nil s g _).mono ?_
  rintro e w' ⟨rfl, hK⟩
  go_wp2_with fail
  go_ret
  exact ⟨rfl, Keeps.trans (Keeps.alloc _ _) hK⟩
set_option maxRecDepth 100000 in
set_option maxHeartbeats 1000000 in
theorem set_any {w : World} {p b : Nat} {l : List (Slot El)} (h : ArenaAt w p b l) (s g : Int) (x : El) :
    Calls Tryd.prog 25 #[.pointer (some ⟨p, 0, none⟩), .agg #[.int .i64 s, .int .i64 g], .int .i64 x] w fun e w' => e = .returned (.int .i64 (findE l s g)) ∧ ArenaAt w' p b (setX l s g x) ∧ Chg (fun k => k = p ∨ k = b) w w' := by
  have hf := fun (W : World) (hk : Keeps w W) => find_any (h.keeps hk) s g
  have hall := fun (W : World) (hk : Keeps w W) => h.keeps hk
  unfold findP at hf
  unfold setX
  rcases findE_cases l s g with hE | hE | hE
  · rw [if_pos hE]
    simp only [hE, if_true] at hf
    obtain ⟨k, rfl, hk, hu, rfl⟩ := findE_yes hE
    have hgen := h.ok.gen _ (List.getElem_mem hk)
    have hg255 := h.ok.used _ (List.getElem_mem hk) hu
    rw [Int.toNat_natCast, modify_set l k hk]
    rw [Int.toNat_natCast] at hf
    obtain ⟨hU, hF⟩ := setAt_used l k hk x
    have hfin := fun (W : World) (hW : ArenaAt W p b l) => hW.setAt (w' := W.setCell ⟨b, k * 3 + 2, none⟩ (.int .i64 x)) k hk ⟨l[k].gen, l[k].used, x⟩ hgen (fun _ => hg255)
      (by rw [hU, hF]; exact hW.hdr.other hW.ne.symm _ _)
      (by
        have e : ((arEls l).set k (slotEl k ⟨l[k].gen, l[k].used, x⟩)).flatten = (arEls l).flatten.set (k * 3 + 2) (.int .i64 x) := by
          rw [flat_set (arEls_size l) k 2 _ (by rw [arEls_len]; exact hk) (by decide), arEls_get l k hk]; rfl
        rw [e]; exact hW.buf.set _ _)
    have s2 := fun (W : World) (hW : ArenaAt W p b l) => hW.slot k hk 2 (by decide)
    simp only [slotEl, xCells, List.cons_append, List.nil_append, List.getD_cons_zero, List.getD_cons_succ] at s2
    rw [hE]
    generalize l[k].x = x0 at *
    generalize l[k].gen = G at *
    generalize l.set k _ = l2 at *
    replace hf := Lib.hid hf
    replace s2 := Lib.hid s2
    replace hE := Lib.hid hE
    replace hfin := Lib.hid hfin
    replace hall := Lib.hid hall
    clear h hU hF hgen hg255 hu
    go_enter Tryd.func25, Tryd.ntmps25
    go_wp2_with fail
    refine (hf.out _ (Keeps.alloc _ _)).mono ?_
    rintro e w' ⟨rfl, hK⟩
    have hW := hall.out _ (Keeps.trans (Keeps.alloc _ _) hK)
    have t2 := s2.out _ hW
    have f2 := hW.buf.frozen (k * 3 + 2)
    replace hW := Lib.hid hW
    replace hK := Lib.hid (Keeps.trans (Keeps.alloc _ _) hK)
    go_wp2_with fail
    go_ret
    exact ⟨rfl, hfin.out _ hW.out, (Chg.of_keeps hK.out).trans (Chg.setCell _ _ (.inr rfl))⟩
  all_goals
    rw [if_neg (by rw [hE]; decide)]
    simp only [hE] at hf
    rw [if_neg (by decide)] at hf
    rw [hE]
    replace hf := Lib.hid hf
    replace hE := Lib.hid hE
    replace hall := Lib.hid hall
    clear h
    go_enter Tryd.func25, Tryd.ntmps25
    go_wp2_with fail
    refine (hf.out _ (Keeps.alloc _ _)).mono ?_
    rintro e w' ⟨rfl, hK⟩
    replace hK := Lib.hid (Keeps.trans (Keeps.alloc _ _) hK)
    go_wp2_with fail
    go_ret
    exact ⟨rfl, hall.out _ hK.out, Chg.of_keeps hK.out⟩
/-! ### Len and Room -/
theorem len_nil (w : World) : Calls Tryd.prog 18 #[.pointer none] w fun e w' => e = .returned (.int .i64 0) ∧ w = w' := by
  go_enter Tryd.func18, Tryd.ntmps18
  go_wp2_with fail
  go_ret
  exact ⟨rfl, rfl⟩
theorem room_nil (w : World) : Calls Tryd.prog 16 #[.pointer none] w fun e w' => e = .returned (.int .i64 0) ∧ w = w' := by
  go_enter Tryd.func16, Tryd.ntmps16
  go_wp2_with fail
  go_ret
  exact ⟨rfl, rfl⟩
theorem len_yes {w : World} {p b : Nat} {l : List (Slot El)} (h : ArenaAt w p b l) :
    Calls Tryd.prog 18 #[.pointer (some ⟨p, 0, none⟩)] w fun e w' => e = .returned (.int .i64 ((l.filter (·.used)).length : Int)) ∧ w = w' := by
  have c1 := h.c1
  have hl := len_any (usedM l) w h.usedLt
  have e : lenN (usedM l) = (l.filter (·.used)).length := by
    unfold usedM; rw [lenN_wordB _ (by simpa using h.hi), List.filter_map, List.length_map]; rfl
  rw [e] at hl
  generalize usedM l = U at *
  generalize (l.filter (·.used)).length = n at *
  clear h e
  go_enter Tryd.func18, Tryd.ntmps18
  go_wp2_with fail
  refine hl.mono ?_
  rintro e w' ⟨rfl, rfl⟩
  go_wp2_with fail
  go_ret
  exact ⟨rfl, rfl⟩
theorem room_yes {w : World} {p b : Nat} {l : List (Slot El)} (h : ArenaAt w p b l) :
    Calls Tryd.prog 16 #[.pointer (some ⟨p, 0, none⟩)] w fun e w' => e = .returned (.int .i64 ((l.filter (·.open)).length : Int)) ∧ w = w' := by
  have c2 := h.c2
  have hl := len_any (freeM l) w h.freeLt
  have e : lenN (freeM l) = (l.filter (·.open)).length := by
    unfold freeM; rw [lenN_wordB _ (by simpa using h.hi), List.filter_map, List.length_map]; rfl
  rw [e] at hl
  generalize freeM l = U at *
  generalize (l.filter (·.open)).length = n at *
  clear h e
  go_enter Tryd.func16, Tryd.ntmps16
  go_wp2_with fail
  refine hl.mono ?_
  rintro e w' ⟨rfl, rfl⟩
  go_wp2_with fail
  go_ret
  exact ⟨rfl, rfl⟩
/-! ### Free -/
/-- Handles freed one behind the other, up to the first that can't. -/
def freeAll : List (Slot El) → List (Int × Int) → List (Slot El) × Int
  | l, [] => (l, 0)
  | l, z :: t => if findE l z.1 z.2 = 0 then freeAll (freeAt zEl l z.1.toNat) t else (l, findE l z.1 z.2)
set_option maxRecDepth 100000 in
set_option maxHeartbeats 400000 in
theorem free_nil (v : Value) (w : World) : Calls Tryd.prog 17 #[.pointer none, v] w fun e w' => e = .returned (.int .i64 6) ∧ w = w' := by
  go_enter Tryd.func17, Tryd.ntmps17
  go_wp2_with fail
  go_ret
  exact ⟨rfl, rfl⟩
set_option maxRecDepth 100000 in
set_option maxHeartbeats 4000000 in
theorem free_any {w : World} {p b : Nat} {l : List (Slot El)} (h : ArenaAt w p b l) (zs : List (Int × Int)) (v : Value) (hv : SlcS 2 w v (zs.map hEl)) (ho : ∀ c, v.ownBlock = some c → 0 < zs.length → c ≠ p ∧ c ≠ b) :
    Calls Tryd.prog 17 #[.pointer (some ⟨p, 0, none⟩), v] w fun e w' => e = .returned (.int .i64 (freeAll l zs).2) ∧ ArenaAt w' p b (freeAll l zs).1 ∧ Chg (fun k => k = p ∨ k = b) w w' := by
  obtain ⟨q, cap, rfl, hvl, hvc, hcell⟩ := SlcS.get hv
  rw [List.length_map] at *
  have hn : zs.length ≤ 9223372036854775807 := by omega
  have hplt := h.hdr.lt
  have hblt := h.buf.lt
  have hcells : ∀ (j : Nat) (hj : j < zs.length), ∃ c off, q = some ⟨c, off, none⟩ ∧ c < w.heap.size ∧ w.cell? ⟨c, off + j * 2, none⟩ = some (.int .i64 zs[j].1) ∧ w.cell? ⟨c, off + j * 2 + 1, none⟩ = some (.int .i64 zs[j].2) := fun j hj => by
    obtain ⟨c, off, e, hc⟩ := hcell j (by simpa using hj)
    have h0 := hc 0 (by decide)
    have h1 := hc 1 (by decide)
    simp [hEl, hj] at h0 h1
    exact ⟨c, off, e, cell_lt h0, by simpa using h0, by simpa [Nat.add_assoc] using h1⟩
  have hstart := h
  replace hcells := Lib.hid hcells
  replace hstart := Lib.hid hstart
  replace ho := Lib.hid ho
  replace hblt := Lib.hid hblt
  clear hcell hv h
  go_enter Tryd.func17, Tryd.ntmps17
  go_wp2_with fail
  go_loopw [13] (fun i wr => ∃ (k : Nat) (l2 : List (Slot El)), k ≤ zs.length ∧ i = .int .i64 k ∧ ArenaAt wr p b l2 ∧ Chg (fun k => k = p ∨ k = b) w wr ∧ Hid (freeAll l2 (zs.drop k) = freeAll l zs)) (fun i _ => zs.length - (intOf i).toNat)
  case atStart => exact ⟨0, l, Nat.zero_le _, rfl, hstart.out, Chg.refl _ _, Lib.hid rfl⟩
  case round =>
    obtain ⟨k, l2, hk, rfl, hA, hC, hrest⟩ := hrel
    replace hA := Lib.hid hA
    replace hC := Lib.hid hC
    by_cases hlt : k < zs.length
    · obtain ⟨c, off, rfl, hcl, z0, z1⟩ := hcells.out k hlt
      have hsep := ho.out c rfl (by omega)
      have hcp : ¬ ((fun k => k = p ∨ k = b) c) := by rintro (h | h); exact hsep.1 h; exact hsep.2 h
      have z0 := (World.cell?_of_block (a := ⟨c, off + k * 2, none⟩) (hC.out.block c hcl hcp)).trans z0
      have z1 := (World.cell?_of_block (a := ⟨c, off + k * 2 + 1, none⟩) (hC.out.block c hcl hcp)).trans z1
      have hf := fun (W : World) (hk : Keeps wr W) => find_any (hA.out.keeps hk) zs[k].1 zs[k].2
      unfold findP at hf
      have hdr : zs.drop k = zs[k] :: zs.drop (k + 1) := List.drop_eq_getElem_cons hlt
      have hst : freeAll l2 (zs.drop k) = if findE l2 zs[k].1 zs[k].2 = 0 then freeAll (freeAt zEl l2 zs[k].1.toNat) (zs.drop (k + 1)) else (l2, findE l2 zs[k].1 zs[k].2) := by rw [hdr]; rfl
      rw [hrest.out] at hst
      generalize zs[k].1 = s at *
      generalize zs[k].2 = g at *
      have hltI := Int.ofNat_lt.2 hlt
      try push_cast at hltI
      rcases findE_cases l2 s g with hE | hE | hE
      · simp only [hE, if_true] at hf hst
        obtain ⟨i, rfl, hi, hu, rfl⟩ := findE_yes hE
        rw [Int.toNat_natCast] at hst hf
        have hrl := fun (W : World) (hk : Keeps wr W) => release_any (hA.out.keeps hk) i hi hu
        generalize l2[i].gen = G at *
        replace hf := Lib.hid hf
        replace hst := Lib.hid hst
        replace hrl := Lib.hid hrl
        replace hE := Lib.hid hE
        clear hrest hu hdr hsep hcp
        go_wp2_with fail
        refine (hf.out _ (by with_reducible exact (Keeps.alloc _ _))).mono ?_
        rintro e w2 ⟨rfl, hK⟩
        have hrl2 := hrl.out _ (Keeps.trans (Keeps.alloc _ _) hK)
        replace hrl2 := Lib.hid hrl2
        replace hK := Lib.hid (Keeps.trans (Keeps.alloc _ _) hK)
        clear hrl hf
        go_wp2_with fail
        refine hrl2.out.mono ?_
        rintro e w3 ⟨rfl, hA3, hC3⟩
        have hC4 := hC.out.trans ((Chg.of_keeps hK.out).trans hC3)
        replace hA3 := Lib.hid hA3
        replace hC4 := Lib.hid hC4
        clear hC3 hrl2 hK hA hC
        go_wp2_with fail
        go_roundw
        case rel => exact ⟨k + 1, _, by omega, by go_num, hA3.out, hC4.out, Lib.hid hst.out.symm⟩
        case measure => (simp [intOf]; try omega)
      all_goals
        simp only [hE] at hf hst
        rw [if_neg (by decide)] at hf hst
        replace hst := Lib.hid hst
        replace hf := Lib.hid hf
        clear hrest hdr hsep hcp hE
        go_wp2_with fail
        refine (hf.out _ (by with_reducible exact (Keeps.alloc _ _))).mono ?_
        rintro e w2 ⟨rfl, hK⟩
        have hA2 := hA.out.keeps (Keeps.trans (Keeps.alloc _ _) hK)
        have hC2 := hC.out.trans (Chg.of_keeps (Keeps.trans (Keeps.alloc _ _) hK))
        replace hA2 := Lib.hid hA2
        replace hC2 := Lib.hid hC2
        clear hf hK hA hC
        go_wp2_with fail
        go_ret
        rw [hst.out]
        exact ⟨rfl, hA2.out, hC2.out⟩
    · have hkn : k = zs.length := by omega
      have hltI : ¬ ((k : Int) < (zs.length : Int)) := fun h => hlt (Int.ofNat_lt.1 h)
      replace hrest := hrest.out
      rw [hkn, List.drop_length] at hrest
      have hrest : freeAll l zs = (l2, 0) := hrest.symm
      replace hrest := Lib.hid hrest
      go_wp2_with fail
      go_ret
      rw [hrest.out]
      exact ⟨rfl, hA.out, hC.out⟩
end Go.Proofs.YtanidaepfepppaaDoor.ArI
