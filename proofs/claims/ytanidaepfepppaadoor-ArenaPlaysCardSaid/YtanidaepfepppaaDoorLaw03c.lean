/- Several are freed one behind the other: the walk. -/
import Derived.Test.YtanidaepfepppaaDoorAr7I
import Derived.Test.YtanidaepfepppaaDoorRef03b
import Derived.Test.YtanidaepfepppaaDoorModn
namespace Go.Proofs.YtanidaepfepppaaDoor.ArI
open Go.RowKit Go.Proofs.YtanidaepfepppaaDoor

/-- The first k of n slots hold their own numbers. -/
def fillL (n k : Nat) : List ISlot := (List.range n).map fun i => if i < k then ⟨1, true, (i : Int)⟩ else ⟨1, false, 0⟩
theorem fillL_len (n k : Nat) : (fillL n k).length = n := by simp [fillL]
theorem fillL_get (n k i : Nat) (h : i < n) : (fillL n k)[i]'(by rw [fillL_len]; exact h) = if i < k then ⟨1, true, (i : Int)⟩ else ⟨1, false, 0⟩ := by simp [fillL]
theorem fillL_zero (n : Nat) : fillL n 0 = newL 0 n := by
  apply List.ext_getElem
  · simp [fillL, newL]
  · intro i h1 h2
    simp [fillL, newL]
theorem fillL_open (n k : Nat) (h : k < n) : openAt (fillL n k) 0 = some k := by
  have := openAt_of (fillL n k) 0 k (by rw [fillL_len]; exact h) (by rw [fillL_get _ _ _ h]; simp [Slot.open]) (fun i hi => by rw [fillL_get _ _ _ (by omega), if_pos hi]; rfl)
  rwa [Nat.zero_add] at this
theorem fillL_put (n k : Nat) (h : k < n) : putL (fillL n k) (k : Int) = fillL n (k + 1) := by
  unfold putL
  rw [fillL_open n k h]
  simp only
  rw [modify_set _ _ (by rw [fillL_len]; exact h)]
  apply List.ext_getElem
  · simp [fillL_len]
  · intro i h1 h2
    have hi : i < n := by rw [fillL_len] at h2; exact h2
    have e1 := fillL_get n k k h
    rw [if_neg (Nat.lt_irrefl k)] at e1
    have e2 := fillL_get n k i hi
    have e3 := fillL_get n (k + 1) i hi
    rw [e3, List.getElem_set]
    by_cases e : k = i
    · subst e; rw [if_pos rfl, if_pos (Nat.lt_succ_self k)]
      simp only [e1]
    · rw [if_neg e, e2]
      by_cases h3 : i < k
      · rw [if_pos h3, if_pos (by omega)]
      · rw [if_neg h3, if_neg (by omega)]
theorem freeL_len (l : List ISlot) (s g : Int) : (freeL 0 l s g).length = l.length := by unfold freeL freeAt; split <;> simp
theorem freeL_ok {l : List ISlot} (h : ArOk l) (s g : Int) : ArOk (freeL 0 l s g) := by
  unfold freeL
  split
  · rename_i hE
    obtain ⟨k, rfl, hk, hu, rfl⟩ := findE_yes hE
    have := h.used _ (List.getElem_mem hk) hu
    rw [Int.toNat_natCast, show freeAt (0 : Int) l k = _ from modify_set l k hk _]
    exact h.set k _ (by simp only; omega) (fun h' => by cases h')
  · exact h
theorem freeAll_cons (l : List ISlot) (z : Int × Int) (t : List (Int × Int)) : freeAll l (z :: t) = if findE l z.1 z.2 = 0 then freeAll (freeL 0 l z.1 z.2) t else (l, findE l z.1 z.2) := by
  simp only [freeAll]
  split
  · rename_i h; unfold freeL; rw [if_pos h]; rfl
  · rfl
theorem Slots.chg {S : Nat → Prop} {w w' : World} {v : Value} {l : List ISlot} (h : Slots w v l) (hm : Chg S w w') (hsep : ∀ b, v.ownBlock = some b → ¬ S b) : Slots w' v l := SlcS.chg h hm hsep
/-- What holds while the law goes: the arena, the list, and they are apart. -/
structure InvM (w : World) (p b : Nat) (la : List (Slot El)) (m : Value) (lm : List ISlot) (W : World) : Prop where
  a : InvA w p b la W
  sl : Slots W m lm
  sep : ∀ c, m.ownBlock = some c → c ≠ p ∧ c ≠ b
section
variable {w W W' : World} {p b : Nat} {la la' : List (Slot El)} {m m' : Value} {lm lm' : List ISlot}
theorem InvM.kept (h : InvM w p b la m lm W) (hk : Keeps W W') : InvM w p b la m lm W' := ⟨h.a.kept hk, h.sl.keeps hk, h.sep⟩
theorem InvM.ar (h : InvM w p b la m lm W) (ha : ArenaAt W' p b la') (hc : Chg (fun k => k = p ∨ k = b) W W') : InvM w p b la' m lm W' :=
  ⟨h.a.chg ha hc, h.sl.chg hc (fun c hcc hs => by have := h.sep c hcc; rcases hs with hs | hs; exact this.1 hs; exact this.2 hs), h.sep⟩
theorem InvM.told (h : InvM w p b la m lm W) (hn : SlotsN W m m' lm' W') : InvM w p b la m' lm' W' := by
  obtain ⟨h1, h2, h3⟩ := hn
  refine ⟨h.a.kept h3, h1, ?_⟩
  rcases h2 with rfl | ⟨e, h2⟩
  · exact h.sep
  · exact fun c hc => by have := h2.own c hc; have h4 := h.a.ne; omega
end
set_option maxRecDepth 100000 in
set_option maxHeartbeats 4000000 in
theorem lawMany_any (sl : Int) (v : Value) (zs0 : List (Int × Int)) (w : World) (hv0 : SlcS 2 w v (zs0.map hEl)) (hT : TabAt w) :
    Calls Tryd.prog 5 #[.int .i64 sl, v] w fun e w' => e = .returned (.bool true) ∧ Keeps w w' := by
  obtain ⟨N8, hN8, e1⟩ := wrap_mod sl 8 (by decide)
  obtain ⟨N, hN⟩ : ∃ N : Nat, N = 1 + N8 := ⟨_, rfl⟩
  have hN1 : 1 ≤ N := by omega
  have hN64 : N ≤ 64 := by omega
  obtain ⟨q, cap, rfl, hl0, hc0, _⟩ := SlcS.get hv0
  rw [List.length_map] at *
  obtain ⟨n, zs, hn, hlen, hv, hcase⟩ : ∃ (n : Nat) (zs : List (Int × Int)), zs.length = n ∧ n ≤ 20 ∧ SlcS 2 w (.slice q n cap) (zs.map hEl) ∧ (((zs0.length : Int) ≤ 20 ∧ n = zs0.length) ∨ ((20 : Int) < zs0.length ∧ n = 20)) := by
    by_cases h : zs0.length ≤ 20
    · exact ⟨zs0.length, zs0, rfl, h, hv0, .inl ⟨by omega, rfl⟩⟩
    · refine ⟨20, zs0.take 20, by rw [List.length_take]; omega, Nat.le_refl _, ?_, .inr ⟨by omega, rfl⟩⟩
      rw [List.map_take]
      exact hv0.take 20 (by rw [List.length_map]; omega)
  have hown : ∀ c, (Value.slice q n cap).ownBlock = some c → 0 < n → c < w.heap.size := by
    intro c hc h0
    obtain ⟨q', cap', hv', _, _, hcell⟩ := SlcS.get hv
    obtain ⟨b, off, hq, hcl⟩ := hcell 0 (by rw [List.length_map]; omega)
    simp only [Value.slice.injEq] at hv'
    rw [← hv'.1] at hq
    subst hq
    simp [Value.ownBlock] at hc
    subst hc
    exact cell_lt (hcl 0 (by decide))
  have hnew := new_yes N w hN1 hN64
  have hrnew := fun (W : World) => rNew_any N W hN64
  have hput := fun (k : Nat) (hk : k < N) (W : World) (p b : Nat) (h : InvA w p b (fillL N k) W) => (put_ok h.ar (hT.keeps h.keeps) k (fillL_open N k hk) (k : Int)).mono fun e W' (hh : _ ∧ _ ∧ _) => (⟨by have := hh.1; rw [List.getElem?_eq_getElem (by rw [fillL_len]; exact hk), fillL_get _ _ _ hk, if_neg (Nat.lt_irrefl k)] at this; exact this, by rw [← fillL_put N k hk]; exact hh.2.1, hh.2.2⟩ : e = .returned (.tuple #[.agg #[.int .i64 (k : Int), .int .i64 1], .int .i64 0]) ∧ ArenaAt W' p b (fillL N (k + 1)) ∧ Chg (fun k => k = p ∨ k = b) W W')
  have hrput := fun (k : Nat) (hk : k < N) (W : World) (m : Value) (h : Slots W m (fillL N k)) => (rPut_any m _ (k : Int) W h (by rw [fillL_len]; exact hN64)).mono fun e W' hh => by
    obtain ⟨u, hh1, hh2⟩ := hh
    rw [fillL_put N k hk] at hh2
    exact (⟨u, _, _, _, hh1, hh2⟩ : ∃ u x y z, e = .returned (.tuple #[u, x, y, z]) ∧ SlotsN W m u (fillL N (k + 1)) W')
  have hkn := fun (W : World) (h : Keeps w W) => known_any W (hT.keeps h)
  have hz : fillL N 0 = newL 0 N := fillL_zero N
  rw [show ((N : Nat) : Int) = 1 + (N8 : Int) by omega] at hnew
  simp only [show ((N : Nat) : Int) = 1 + (N8 : Int) by omega] at hrnew
  replace hN := Lib.hid hN
  replace hT := Lib.hid hT
  replace hv := Lib.hid hv
  replace hown := Lib.hid hown
  replace hnew := Lib.hid hnew
  replace hrnew := Lib.hid hrnew
  replace hput := Lib.hid hput
  replace hrput := Lib.hid hrput
  replace hkn := Lib.hid hkn
  replace hz := Lib.hid hz
  replace hn := Lib.hid hn
  clear hv0
  rcases hcase with ⟨hb, hnz⟩ | ⟨hb, hnz⟩
  all_goals
    subst hnz
    go_enter Tryd.func5, Tryd.ntmps5
    go_wp2_with fail
    refine hnew.out.mono ?_
    rintro e w1 ⟨p, b, rfl, hA, hp, hb, hK⟩
    rw [show newL zEl N = fillL N 0 from hz.out.symm] at hA
    have hI0 : InvA w p b (fillL N 0) w1 := ⟨hA, hp, hb, hK⟩
    replace hI0 := Lib.hid hI0
    clear hA hp hb hK hnew
    go_wp2_with fail
    refine (hrnew.out w1).mono ?_
    rintro e w2 ⟨m, rfl, hN2⟩
    rw [← hz.out] at hN2
    have hI1 : InvM w p b (fillL N 0) m (fillL N 0) w2 := (InvM.told (w := w) (p := p) (b := b) (m := .slice none 0 0) (lm := []) ⟨hI0.out, SlcS.nil 3 w1, fun c hc => by simp [Value.ownBlock] at hc⟩ hN2)
    replace hI1 := Lib.hid hI1
    clear hN2 hI0 hrnew
    go_wp2_with fail
    go_loopw [7, 8] (fun m i wr => ∃ (k : Nat) (mv : Value), k ≤ N ∧ i = .int .i64 k ∧ mv = m ∧ InvM w p b (fillL N k) mv (fillL N k) wr) (fun _ i _ => N - (intOf i).toNat)
    case atStart => exact ⟨0, _, Nat.zero_le _, rfl, rfl, hI1.out⟩
    case round =>
      clear hI1
      obtain ⟨k, mv, hk, rfl, rfl, hI⟩ := hrel
      by_cases hlt : k < N
      · have hlt' : (k : Int) < 1 + (N8 : Int) := by have := hN.out; omega
        have hc1 := hput.out k hlt wr p b hI.a
        have hrp := hrput.out k hlt
        replace hI := Lib.hid hI
        replace hc1 := Lib.hid hc1
        replace hrp := Lib.hid hrp
        go_wp2_with fail
        refine hc1.out.mono ?_
        rintro e w3 ⟨rfl, hA3, hC3⟩
        have hI3 := hI.out.ar hA3 hC3
        replace hI3 := Lib.hid hI3
        clear hA3 hC3 hc1 hI
        go_upto_region 10 with (fail)
        refine wp_gen (fun W => InvM w p b (fillL N (k + 1)) mv (fillL N k) W) (hI3.out.kept (Keeps.alloc _ _)) ?_
        clear hI3
        rintro W4 hI4
        have hc2 := hrp.out W4 mv hI4.sl
        replace hI4 := Lib.hid hI4
        replace hc2 := Lib.hid hc2
        go_wp2_with fail
        refine hc2.out.mono ?_
        rintro e w5 ⟨u, x, y, z, rfl, hN5⟩
        have hI5 := hI4.out.told hN5
        replace hI5 := Lib.hid hI5
        clear hN5 hc2 hI4
        go_wp2_with fail
        go_roundw
        case rel => exact ⟨k + 1, _, by omega, by go_num, rfl, hI5.out⟩
        case measure => (simp [intOf]; try omega)
      · obtain rfl : k = N := by omega
        have hlt' : ¬ (k : Int) < 1 + (N8 : Int) := by have := hN.out; omega
        have hok0 : ArOk (fillL k k) := hI.a.ar.ok
        have hlen0 := fillL_len k k
        generalize fillL k k = lf at *
        replace hI := Lib.hid hI
        replace hok0 := Lib.hid hok0
        replace hlen0 := Lib.hid hlen0
        clear hput hrput
        go_wp2_with fail
        go_loopw [7, 11, 12] (fun m e i wr => ∃ (j : Nat) (lk : List ISlot) (u : Value) (E : Int), j ≤ zs.length ∧ i = .int .i64 j ∧ u = m ∧ e = .int .i64 E ∧ InvM w p b lf u lk wr ∧ ArOk lk ∧ lk.length = k ∧ Hid ((if E = 0 then freeAll lk (zs.drop j) else (lk, E)) = freeAll lf zs)) (fun _ _ i _ => zs.length - (intOf i).toNat)
        case atStart => exact ⟨0, lf, _, 0, Nat.zero_le _, rfl, rfl, rfl, hI.out, hok0.out, hlen0.out, Lib.hid rfl⟩
        case round =>
          clear hI hok0 hlen0
          obtain ⟨j, lk, u, E, hj, rfl, rfl, rfl, hI, hok, hlen2, hE⟩ := hrel
          rw [hn.out] at hj
          have hgo : (E = 0 ∧ j < zs.length) ∨ ((E ≠ 0 ∨ ¬ j < zs.length) ∧ (lk, E) = freeAll lf zs) := by
            by_cases h0 : E = 0
            · by_cases hlt : j < zs.length
              · exact .inl ⟨h0, hlt⟩
              · refine .inr ⟨.inr hlt, ?_⟩
                have := hE.out
                rw [if_pos h0, List.drop_eq_nil_of_le (by omega)] at this
                rw [h0]; exact this
            · refine .inr ⟨.inl h0, ?_⟩
              have := hE.out
              rwa [if_neg h0] at this
          rcases hgo with ⟨rfl, hlt⟩ | ⟨hst, hfin⟩
          · have hE' := hE.out
            rw [if_pos rfl, List.drop_eq_getElem_cons hlt, freeAll_cons] at hE'
            obtain ⟨q', cap', hv', _, _, hcell⟩ := SlcS.get (SlcS.below hv.out hI.a.keeps)
            obtain ⟨c, off, hp', hc1⟩ := hcell j (by rw [List.length_map]; exact hlt)
            obtain rfl : q = some ⟨c, off, none⟩ := by simp only [Value.slice.injEq] at hv'; rw [hv'.1]; exact hp'
            have z0 := hc1 0 (by decide)
            have z1 := hc1 1 (by decide)
            simp [List.getD, hlt, hEl] at z0 z1
            rw [hn.out] at hlt
            have hrf := fun (W : World) (hk : Keeps wr W) => rFree_any u lk zs[j].1 zs[j].2 W (hI.sl.keeps hk) (by omega) hok
            have hok2 := freeL_ok hok zs[j].1 zs[j].2
            have hl2 := freeL_len lk zs[j].1 zs[j].2
            have hcont : (if findE lk zs[j].1 zs[j].2 = 0 then freeAll (freeL 0 lk zs[j].1 zs[j].2) (zs.drop (j + 1)) else (freeL 0 lk zs[j].1 zs[j].2, findE lk zs[j].1 zs[j].2)) = freeAll lf zs := by
              rw [← hE']
              split
              · rfl
              · rename_i h; unfold freeL; rw [if_neg h]
            clear hcell hv' hp' hE' hE hc1
            generalize zs[j].1 = s at *
            generalize zs[j].2 = g at *
            generalize findE lk s g = E2 at *
            generalize freeL 0 lk s g = l2 at *
            replace hrf := Lib.hid hrf
            replace hcont := Lib.hid hcont
            replace hok2 := Lib.hid hok2
            replace hl2 := Lib.hid hl2
            replace hI := Lib.hid hI
            have hltI := Int.ofNat_lt.2 hlt
            try push_cast at hltI
            go_upto_region 18 with (fail)
            go_region_with (first | (go_at_call 21; with_reducible refine (hrf.out _ (Keeps.drew _)).mono ?_; rintro e w2 ⟨u2, rfl, hN2⟩; replace hN2 := Lib.hid hN2))
            all_goals
              have hI2 := (hI.out.kept (Keeps.drew wr)).told hN2.out
              replace hI2 := Lib.hid hI2
              clear hN2 hI
              go_wp2_with fail
              go_roundw
              case rel => exact ⟨j + 1, l2, _, E2, by have := hn.out; omega, by go_num, rfl, rfl, hI2.out, hok2.out, by rw [hl2.out]; exact hlen2, hcont⟩
              case measure => (simp [intOf]; try omega)
          · have hst' : (¬ j < zs.length) ∨ (j < zs.length ∧ ((E == 0) = false)) := by
              by_cases h : j < zs.length
              · refine .inr ⟨h, ?_⟩
                rcases hst with h2 | h2
                · simpa using h2
                · exact absurd h h2
              · exact .inl h
            rw [hn.out] at hst'
            have hfr := fun (W : World) (h : InvM w p b lf u lk W) => (free_any h.a.ar zs _ (SlcS.below hv.out h.a.keeps) (fun c hc h0 => by
              have := hown.out c hc (by rw [← hn.out]; exact h0); have h1 := h.a.hp; have h2 := h.a.hb; omega)).mono fun e W' (hh : _ ∧ _ ∧ _) =>
              (⟨by rw [hh.1, ← hfin], by have := hh.2.1; rw [← hfin] at this; exact h.ar this hh.2.2⟩ : e = .returned (.int .i64 E) ∧ InvM w p b lk u lk W')
            have hcn := fun (W : World) (h : InvM w p b lf u lk W) => rCount_any u lk W h.sl
            have hln := fun (W : World) (h : InvM w p b lk u lk W) => len_yes h.a.ar
            have hrm := fun (W : World) (h : InvM w p b lk u lk W) => room_yes h.a.ar
            generalize (lk.filter (·.used)).length = nu at *
            generalize (lk.filter (·.open)).length = no at *
            replace hfr := Lib.hid hfr
            replace hcn := Lib.hid hcn
            replace hln := Lib.hid hln
            replace hrm := Lib.hid hrm
            replace hfin := Lib.hid hfin
            replace hI := Lib.hid hI
            clear hE hst hok hlen2
            rcases hst' with hnl | ⟨hlt, he0⟩
            case' inl =>
              have hltI : ¬ ((j : Int) < _) := fun h => hnl (Int.ofNat_lt.1 h)
            case' inr =>
              have hltI := Int.ofNat_lt.2 hlt
            all_goals
              try push_cast at hltI
              go_wp2_with fail
              refine (hcn.out wr hI.out).mono ?_
              rintro e w2 ⟨rfl, rfl⟩
              go_wp2_with fail
              refine (hkn.out wr hI.out.a.keeps).mono ?_
              rintro e w2 ⟨rfl, hK2⟩
              have hI2 := hI.out.kept hK2
              have hf2 := hfr.out w2 hI2
              replace hf2 := Lib.hid hf2
              clear hK2 hI hI2 hfr hcn
              go_wp2_with fail
              refine hf2.out.mono ?_
              rintro e w3 ⟨rfl, hI3⟩
              have hl3 := hln.out w3 hI3
              have hr3 := hrm.out w3 hI3
              replace hI3 := Lib.hid hI3
              replace hl3 := Lib.hid hl3
              replace hr3 := Lib.hid hr3
              go_wp2_with fail
              refine hl3.out.mono ?_
              rintro e w4 ⟨rfl, rfl⟩
              go_wp2_with fail
              refine hr3.out.mono ?_
              rintro e w4 ⟨rfl, rfl⟩
              go_wp2_with fail
              go_ret
              exact ⟨rfl, hI3.out.a.keeps⟩
end Go.Proofs.YtanidaepfepppaaDoor.ArI
