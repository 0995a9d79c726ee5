/- The law RingPlays: what its walk comes to. -/
import Derived.Test.YtkchcckdfbpdmaaLaw02
import Derived.Test.YtkchcckdfbpdmaaRef02
namespace Go.Proofs.Ytkchcckdfbpdmaa
open Go.RowKit

/-- A slice of calls: each its kind, its number, its list. -/
def Acts (W : World) (v : Value) (acts : List (Int × Int × List Int)) : Prop := ∃ p cap, v = .slice p acts.length cap ∧ acts.length ≤ cap ∧ cap ≤ 9223372036854775807 ∧
  ∀ i, (h : i < acts.length) → ∃ c off lv, p = some ⟨c, off, none⟩ ∧ W.cell? ⟨c, off + i * 3, none⟩ = some (.int .i64 acts[i].1) ∧ W.cell? ⟨c, off + i * 3 + 1, none⟩ = some (.int .i64 acts[i].2.1) ∧ W.cell? ⟨c, off + i * 3 + 2, none⟩ = some lv ∧ Ints W lv acts[i].2.2
theorem wrap_mod4 (x : Int) : ∃ k : Nat, k < 4 ∧ (IntKind.u64.wrap x).tmod 4 = (k : Int) := by
  rw [IntKind.wrap_u64, Int.tmod_eq_emod_of_nonneg (by omega)]
  exact ⟨((x % 18446744073709551616) % 4).toNat, by omega, by omega⟩
theorem Slc.lt {w : World} {v : Value} {xs : List Value} (h : Slc w v xs) {c off n cap : Nat} (hv : v = .slice (some ⟨c, off, none⟩) n cap) (hn : 0 < n) : c < w.heap.size := by
  obtain ⟨q, cp, hv', _, _, _, h⟩ := h
  rw [hv] at hv'
  simp only [Value.slice.injEq] at hv'
  obtain ⟨e1, e2, e3⟩ := hv'
  obtain ⟨c', off', hq, hc⟩ := h 0 (by omega)
  rw [hq] at e1
  obtain ⟨rfl, rfl⟩ : c = c' ∧ off = off' := by simpa using e1
  exact cell_lt hc

set_option maxRecDepth 100000 in
set_option maxHeartbeats 4000000 in
theorem lawPlays_any (room : Int) (v : Value) (acts : List (Int × Int × List Int)) (w : World) (hv : Acts w v acts) :
    Calls Try.prog 5 #[.int .i64 room, v] w fun e w' => e = .returned (.bool true) ∧ Keeps w w' := by
  by_cases hr : room < 1 ∨ 256 < room
  · have hnew := i64.new_no room w hr
    obtain ⟨q, cap, rfl, hl, hc, hcell⟩ := hv
    clear hcell
    by_cases h1 : room < 1
    · go_enter Try.func5, Try.ntmps5
      go_wp2_with fail
      refine hnew.mono ?_
      rintro e w1 ⟨rfl, rfl⟩
      go_wp2_with fail
      refine (known02_any _).mono ?_
      rintro e w2 ⟨rfl, hK2⟩
      go_wp2_with fail
      go_ret
      exact ⟨rfl, hK2⟩
    · have h2 : 256 < room := by omega
      clear hr
      go_enter Try.func5, Try.ntmps5
      go_wp2_with fail
      refine hnew.mono ?_
      rintro e w1 ⟨rfl, rfl⟩
      go_wp2_with fail
      refine (known02_any _).mono ?_
      rintro e w2 ⟨rfl, hK2⟩
      go_wp2_with fail
      go_ret
      exact ⟨rfl, hK2⟩
  · obtain ⟨r, rfl⟩ : ∃ r : Nat, room = r := ⟨room.toNat, by omega⟩
    have hr1 : 1 ≤ r := by omega
    have hr2 : r ≤ 256 := by omega
    obtain ⟨q, cap, rfl, hl, hc, hcell⟩ := hv
    clear hr
    go_enter Try.func5, Try.ntmps5
    go_wp2_with fail
    refine (i64.new_yes r _ hr1 hr2).mono ?_
    rintro e w1 ⟨rfl, hR, hK⟩
    obtain ⟨p, hpe⟩ : ∃ p, p = w.heap.size + 1 := ⟨_, rfl⟩
    obtain ⟨b, hbe⟩ : ∃ b, b = w.heap.size := ⟨_, rfl⟩
    have hpl : w.heap.size ≤ p := by omega
    have hbl : w.heap.size ≤ b := by omega
    rw [← hpe, ← hbe] at hR
    rw [← hpe]
    clear hpe hbe
    go_wp2_with fail
    go_loopw [7, 8] (fun m i wr => ∃ (k hd : Nat) (xs : List Int), k ≤ acts.length ∧ i = .int .i64 k ∧ i64.RingAt wr p b r hd xs ∧ Ints wr m xs ∧ (∀ c off n cap, m = .slice (some ⟨c, off, none⟩) n cap → 0 < n → c ≠ p ∧ c ≠ b) ∧ Keeps w wr) (fun _ i _ => acts.length - (intOf i).toNat)
    case atStart => exact ⟨0, 0, [], Nat.zero_le _, rfl, hR, Slc.nil _, fun _ _ _ _ h => (by cases h), hK⟩
    case round =>
      obtain ⟨k, hd, xs, hk, rfl, hR, hm, hsep, hK⟩ := hrel
      by_cases hlt : k < acts.length
      · by_cases h60 : k < 60
        · obtain ⟨c, off, lv, rfl, c0, c1, c2, hi⟩ := hcell k hlt
          have d0 := (hK.cell (p := ⟨c, off + k * 3, none⟩) (cell_lt c0)).trans c0
          have d1 := (hK.cell (p := ⟨c, off + k * 3 + 1, none⟩) (cell_lt c1)).trans c1
          have d2 := (hK.cell (p := ⟨c, off + k * 3 + 2, none⟩) (cell_lt c2)).trans c2
          obtain ⟨kk, hkk, hw⟩ := wrap_mod4 acts[k].1
          obtain ⟨lp, lcap, rfl, hl1, hl2, hl3, hL⟩ := hi.upto 40
          obtain ⟨mp, mcap, rfl, hm1, hm2, hmc⟩ := hm.open
          clear hcell c0 c1 c2 hmc
          generalize acts[k].1 = K at *
          generalize acts[k].2.1 = I at *
          generalize acts[k].2.2 = zs at *
          replace hi := Lib.hid hi
          replace hL := Lib.hid hL
          replace hm := Lib.hid hm
          replace hsep := Lib.hid hsep
          have hlen := hR.len
          match kk, hkk, hw with
          | 0, _, hw =>
            rcases hL.out with ⟨hle, hz⟩ | ⟨hgt, hz⟩
            · have hlv := hz
              have hKA : Keeps wr (wr.alloc (.cells #[.int .i64 K, .int .i64 I, .slice lp zs.length lcap] 50)) := Keeps.alloc _ _
              have hpush := refPush_any xs zs r _ _ (wr.alloc (.cells #[.int .i64 K, .int .i64 I, .slice lp zs.length lcap] 50)) (Slc.below hm.out hKA) (Slc.below hlv (Keeps.trans hK hKA)) hlen hr2
              replace hlv := Lib.hid hlv
              replace hpush := Lib.hid hpush
              go_wp2_with fail
              refine hpush.out.mono ?_
              rintro e w2 ⟨uu, rfl, hown, hK2⟩
              have hK3 : Keeps wr w2 := Keeps.trans hKA hK2
              have hrp := i64.push_any (hR.keeps hK3) (Slc.below hlv.out (Keeps.trans hK hK3)) (fun c off n cap e h0 => by
                have := Slc.lt hlv.out e h0
                omega)
              have hlt1 := hR.lt
              have hsep2 : ∀ c off n cap, uu = .slice (some ⟨c, off, none⟩) n cap → 0 < n → c ≠ p ∧ c ≠ b := fun c off n cap e _ => by
                have := slc_row_lt hown c off n cap e
                simp only [World.size_alloc] at this
                omega
              have hm2 : Ints w2 uu (xs ++ List.take (r - xs.length) zs) := slc_of_row hown
              obtain ⟨uq, ucap, rfl⟩ := row_slice hown
              generalize hXS : xs ++ List.take (r - xs.length) zs = XS at *
              generalize min zs.length (r - xs.length) = mn at *
              replace hrp := Lib.hid hrp
              clear hown hpush hXS
              go_wp2_with fail
              refine hrp.out.mono ?_
              rintro e w3 ⟨rfl, hR, hM⟩
              replace hm := Lib.hid (Slc.mut hm2 hM hsep2)
              replace hsep := Lib.hid hsep2
              replace hK := hM.after (Keeps.trans hK hK3) hpl hbl
              clear hm2 hsep2 hrp hK3 hK2 hKA
              go_wp2_with fail
              refine (i64.len_any hR).mono ?_
              rintro e wA ⟨rfl, rfl⟩
              go_wp2_with fail
              refine (i64.room_any hR).mono ?_
              rintro e wA ⟨rfl, rfl⟩
              go_wp2_with fail
              refine (i64.list_any hR).mono ?_
              rintro e wB ⟨uu, rfl, hu, hKB⟩
              have hsame := same_any XS XS uu _ wB (slc_of_row hu) (Slc.below hm.out hKB)
              rw [sameL_self] at hsame
              clear hu
              go_wp2_with fail
              with_reducible refine hsame.mono ?_
              rintro e wC ⟨rfl, hKC⟩
              go_wp2_with fail
              go_roundw
              case rel => exact ⟨k + 1, hd, XS, by omega, by go_num, hR.keeps (Keeps.trans hKB hKC), Slc.below hm.out (Keeps.trans hKB hKC), hsep.out, Keeps.trans hK (Keeps.trans hKB hKC)⟩
              case measure => (simp [intOf]; try omega)
            · have hlv := hz
              have hKA : Keeps wr (wr.alloc (.cells #[.int .i64 K, .int .i64 I, .slice lp zs.length lcap] 50)) := Keeps.alloc _ _
              have hpush := refPush_any xs (zs.take 40) r _ _ (wr.alloc (.cells #[.int .i64 K, .int .i64 I, .slice lp zs.length lcap] 50)) (Slc.below hm.out hKA) (Slc.below hlv (Keeps.trans hK hKA)) hlen hr2
              replace hlv := Lib.hid hlv
              replace hpush := Lib.hid hpush
              go_wp2_with fail
              refine hpush.out.mono ?_
              rintro e w2 ⟨uu, rfl, hown, hK2⟩
              have hK3 : Keeps wr w2 := Keeps.trans hKA hK2
              have hrp := i64.push_any (hR.keeps hK3) (Slc.below hlv.out (Keeps.trans hK hK3)) (fun c off n cap e h0 => by
                have := Slc.lt hlv.out e h0
                omega)
              have hlt1 := hR.lt
              have hsep2 : ∀ c off n cap, uu = .slice (some ⟨c, off, none⟩) n cap → 0 < n → c ≠ p ∧ c ≠ b := fun c off n cap e _ => by
                have := slc_row_lt hown c off n cap e
                simp only [World.size_alloc] at this
                omega
              have hm2 : Ints w2 uu (xs ++ List.take (r - xs.length) (zs.take 40)) := slc_of_row hown
              obtain ⟨uq, ucap, rfl⟩ := row_slice hown
              generalize hXS : xs ++ List.take (r - xs.length) (zs.take 40) = XS at *
              generalize min (zs.take 40).length (r - xs.length) = mn at *
              replace hrp := Lib.hid hrp
              clear hown hpush hXS
              go_wp2_with fail
              refine hrp.out.mono ?_
              rintro e w3 ⟨rfl, hR, hM⟩
              replace hm := Lib.hid (Slc.mut hm2 hM hsep2)
              replace hsep := Lib.hid hsep2
              replace hK := hM.after (Keeps.trans hK hK3) hpl hbl
              clear hm2 hsep2 hrp hK3 hK2 hKA
              go_wp2_with fail
              refine (i64.len_any hR).mono ?_
              rintro e wA ⟨rfl, rfl⟩
              go_wp2_with fail
              refine (i64.room_any hR).mono ?_
              rintro e wA ⟨rfl, rfl⟩
              go_wp2_with fail
              refine (i64.list_any hR).mono ?_
              rintro e wB ⟨uu, rfl, hu, hKB⟩
              have hsame := same_any XS XS uu _ wB (slc_of_row hu) (Slc.below hm.out hKB)
              rw [sameL_self] at hsame
              clear hu
              go_wp2_with fail
              with_reducible refine hsame.mono ?_
              rintro e wC ⟨rfl, hKC⟩
              go_wp2_with fail
              go_roundw
              case rel => exact ⟨k + 1, hd, XS, by omega, by go_num, hR.keeps (Keeps.trans hKB hKC), Slc.below hm.out (Keeps.trans hKB hKC), hsep.out, Keeps.trans hK (Keeps.trans hKB hKC)⟩
              case measure => (simp [intOf]; try omega)
          | 1, _, hw =>
            have hKA : Keeps wr (wr.alloc (.cells #[.int .i64 K, .int .i64 I, .slice lp zs.length lcap] 50)) := Keeps.alloc _ _
            have hzz : ((0 : Nat) : Int) = 0 := rfl
            by_cases hnil : xs.length = 0
            · have hrt := refTake_no xs 0 _ (wr.alloc (.cells #[.int .i64 K, .int .i64 I, .slice lp zs.length lcap] 50)) (Slc.below hm.out hKA) (.inr (by omega))
              replace hR := hR.keeps hKA
              have hcall := i64.pop_no _ _ (.inr ⟨_, _, _, _, rfl, (by rw [List.eq_nil_of_length_eq_zero hnil] at hR; exact hR)⟩)
              replace hnil := Lib.hid hnil
              replace hm := Lib.hid (Slc.below hm.out hKA)
              replace hK := Keeps.trans hK hKA
              go_wp2_with fail
              with_reducible refine hrt.mono ?_
              rintro e w2 ⟨rfl, rfl⟩
              go_wp2_with fail
              with_reducible refine hcall.mono ?_
              rintro e w3 ⟨rfl, rfl⟩
              clear hrt hcall hKA
              go_wp2_with fail
              refine (i64.len_any hR).mono ?_
              rintro e wA ⟨rfl, rfl⟩
              go_wp2_with fail
              refine (i64.room_any hR).mono ?_
              rintro e wA ⟨rfl, rfl⟩
              go_wp2_with fail
              refine (i64.list_any hR).mono ?_
              rintro e wB ⟨uu, rfl, hu, hKB⟩
              have hsame := same_any xs xs uu _ wB (slc_of_row hu) (Slc.below hm.out hKB)
              rw [sameL_self] at hsame
              clear hu
              go_wp2_with fail
              with_reducible refine hsame.mono ?_
              rintro e wC ⟨rfl, hKC⟩
              go_wp2_with fail
              go_roundw
              case rel => exact ⟨k + 1, hd, xs, by omega, by go_num, hR.keeps (Keeps.trans hKB hKC), Slc.below hm.out (Keeps.trans hKB hKC), hsep.out, Keeps.trans hK (Keeps.trans hKB hKC)⟩
              case measure => (simp [intOf]; try omega)
            · obtain ⟨x, xs, rfl⟩ : ∃ x ys, xs = x :: ys := by cases xs with | nil => exact absurd rfl hnil | cons x ys => exact ⟨x, ys, rfl⟩
              have hrt := refTake_yes (x :: xs) 0 _ (wr.alloc (.cells #[.int .i64 K, .int .i64 I, .slice lp zs.length lcap] 50)) (Slc.below hm.out hKA) (by simp) (by omega)
              simp only [List.getElem_cons_zero, List.take_zero, List.nil_append, List.drop_succ_cons, List.drop_zero, Nat.zero_add, List.length_cons, hzz] at hrt
              replace hrt := Lib.hid hrt
              have hcall := fun (W : World) (h : i64.RingAt W p b r hd (x :: xs)) => i64.pop_yes h
              go_wp2_with fail
              with_reducible refine hrt.out.mono ?_
              rintro e w2 ⟨uu, rfl, hown, hK2⟩
              have hK3 : Keeps wr w2 := Keeps.trans hKA hK2
              replace hcall := hcall w2 (hR.keeps hK3)
              have hlt1 := hR.lt
              have hsep2 : ∀ c off n cap, uu = .slice (some ⟨c, off, none⟩) n cap → 0 < n → c ≠ p ∧ c ≠ b := fun c off n cap e _ => by
                have := slc_row_lt hown c off n cap e
                simp only [World.size_alloc] at this
                omega
              have hm2 : Ints w2 uu xs := slc_of_row hown
              obtain ⟨uq, ucap, rfl⟩ := row_slice hown
              clear hown hrt hm hsep hR
              go_wp2_with fail
              with_reducible refine hcall.mono ?_
              rintro e w3 ⟨rfl, hR, hM⟩
              replace hm := Lib.hid (Slc.mut hm2 hM hsep2)
              replace hsep := Lib.hid hsep2
              replace hK := hM.after (Keeps.trans hK hK3) hpl hbl
              clear hm2 hsep2 hK3 hK2 hKA
              go_wp2_with fail
              refine (i64.len_any hR).mono ?_
              rintro e wA ⟨rfl, rfl⟩
              go_wp2_with fail
              refine (i64.room_any hR).mono ?_
              rintro e wA ⟨rfl, rfl⟩
              go_wp2_with fail
              refine (i64.list_any hR).mono ?_
              rintro e wB ⟨uu, rfl, hu, hKB⟩
              have hsame := same_any xs xs uu _ wB (slc_of_row hu) (Slc.below hm.out hKB)
              rw [sameL_self] at hsame
              clear hu
              go_wp2_with fail
              with_reducible refine hsame.mono ?_
              rintro e wC ⟨rfl, hKC⟩
              go_wp2_with fail
              go_roundw
              case rel => exact ⟨k + 1, _, xs, by omega, by go_num, hR.keeps (Keeps.trans hKB hKC), Slc.below hm.out (Keeps.trans hKB hKC), hsep.out, Keeps.trans hK (Keeps.trans hKB hKC)⟩
              case measure => (simp [intOf]; try omega)
          | 2, _, hw =>
            have hKA : Keeps wr (wr.alloc (.cells #[.int .i64 K, .int .i64 I, .slice lp zs.length lcap] 50)) := Keeps.alloc _ _
            by_cases hin : 0 ≤ I ∧ I < (xs.length : Int)
            · obtain ⟨n, rfl⟩ : ∃ n : Nat, I = n := ⟨I.toNat, by omega⟩
              have hn : n < xs.length := by omega
              have hrt := refTake_yes xs n _ (wr.alloc (.cells #[.int .i64 K, .int .i64 (n : Int), .slice lp zs.length lcap] 50)) (Slc.below hm.out hKA) hn (by omega)
              have hcall := fun (W : World) (h : i64.RingAt W p b r hd xs) => i64.take_yes n h hn
              generalize hx : xs[n] = x at *
              generalize hXS : xs.take n ++ xs.drop (n + 1) = XS at *
              replace hrt := Lib.hid hrt
              skip
              go_wp2_with fail
              with_reducible refine hrt.out.mono ?_
              rintro e w2 ⟨uu, rfl, hown, hK2⟩
              have hK3 : Keeps wr w2 := Keeps.trans hKA hK2
              replace hcall := hcall w2 (hR.keeps hK3)
              have hlt1 := hR.lt
              have hsep2 : ∀ c off n cap, uu = .slice (some ⟨c, off, none⟩) n cap → 0 < n → c ≠ p ∧ c ≠ b := fun c off n cap e _ => by
                have := slc_row_lt hown c off n cap e
                simp only [World.size_alloc] at this
                omega
              have hm2 : Ints w2 uu XS := slc_of_row hown
              obtain ⟨uq, ucap, rfl⟩ := row_slice hown
              have a1 := (((Blk.new wr 50 [.int .i64 K, .int .i64 (n : Int), .slice lp zs.length lcap]).below hK2 (by simp)).cell 1 (by simp))
              simp only [List.getElem_cons_zero, List.getElem_cons_succ] at a1
              clear hown hrt hm hsep hR
              go_wp2_with fail
              with_reducible refine hcall.mono ?_
              rintro e w3 ⟨rfl, hR, hM⟩
              replace hm := Lib.hid (Slc.mut hm2 hM hsep2)
              replace hsep := Lib.hid hsep2
              replace hK := hM.after (Keeps.trans hK hK3) hpl hbl
              clear hm2 hsep2 hK3 hK2 hKA
              go_wp2_with fail
              refine (i64.len_any hR).mono ?_
              rintro e wA ⟨rfl, rfl⟩
              go_wp2_with fail
              refine (i64.room_any hR).mono ?_
              rintro e wA ⟨rfl, rfl⟩
              go_wp2_with fail
              refine (i64.list_any hR).mono ?_
              rintro e wB ⟨uu, rfl, hu, hKB⟩
              have hsame := same_any XS XS uu _ wB (slc_of_row hu) (Slc.below hm.out hKB)
              rw [sameL_self] at hsame
              clear hu
              go_wp2_with fail
              with_reducible refine hsame.mono ?_
              rintro e wC ⟨rfl, hKC⟩
              go_wp2_with fail
              go_roundw
              case rel => exact ⟨k + 1, _, XS, by omega, by go_num, hR.keeps (Keeps.trans hKB hKC), Slc.below hm.out (Keeps.trans hKB hKC), hsep.out, Keeps.trans hK (Keeps.trans hKB hKC)⟩
              case measure => (simp [intOf]; try omega)
            · have hrt := refTake_no xs I _ (wr.alloc (.cells #[.int .i64 K, .int .i64 I, .slice lp zs.length lcap] 50)) (Slc.below hm.out hKA) (by omega)
              replace hR := hR.keeps hKA
              have hcall := i64.take_no _ I _ (.inr ⟨_, _, _, _, _, rfl, hR, by omega⟩)
              replace hm := Lib.hid (Slc.below hm.out hKA)
              replace hK := Keeps.trans hK hKA
              clear hin
              go_wp2_with fail
              with_reducible refine hrt.mono ?_
              rintro e w2 ⟨rfl, rfl⟩
              go_wp2_with fail
              with_reducible refine hcall.mono ?_
              rintro e w3 ⟨rfl, rfl⟩
              clear hrt hcall hKA
              go_wp2_with fail
              refine (i64.len_any hR).mono ?_
              rintro e wA ⟨rfl, rfl⟩
              go_wp2_with fail
              refine (i64.room_any hR).mono ?_
              rintro e wA ⟨rfl, rfl⟩
              go_wp2_with fail
              refine (i64.list_any hR).mono ?_
              rintro e wB ⟨uu, rfl, hu, hKB⟩
              have hsame := same_any xs xs uu _ wB (slc_of_row hu) (Slc.below hm.out hKB)
              rw [sameL_self] at hsame
              clear hu
              go_wp2_with fail
              with_reducible refine hsame.mono ?_
              rintro e wC ⟨rfl, hKC⟩
              go_wp2_with fail
              go_roundw
              case rel => exact ⟨k + 1, hd, xs, by omega, by go_num, hR.keeps (Keeps.trans hKB hKC), Slc.below hm.out (Keeps.trans hKB hKC), hsep.out, Keeps.trans hK (Keeps.trans hKB hKC)⟩
              case measure => (simp [intOf]; try omega)
          | 3, _, hw =>
            have hKA : Keeps wr (wr.alloc (.cells #[.int .i64 K, .int .i64 I, .slice lp zs.length lcap] 50)) := Keeps.alloc _ _
            by_cases hin : 0 ≤ I ∧ I < (xs.length : Int)
            · obtain ⟨n, rfl⟩ : ∃ n : Nat, I = n := ⟨I.toNat, by omega⟩
              have hn : n < xs.length := by omega
              have hrt := refTake_yes xs n _ (wr.alloc (.cells #[.int .i64 K, .int .i64 (n : Int), .slice lp zs.length lcap] 50)) (Slc.below hm.out hKA) hn (by omega)
              have hcall := fun (W : World) (h : i64.RingAt W p b r hd xs) => i64.at_yes n h hn
              generalize hx : xs[n] = x at *
              generalize hXS : xs.take n ++ xs.drop (n + 1) = XS at *
              replace hrt := Lib.hid hrt
              go_wp2_with fail
              with_reducible refine hrt.out.mono ?_
              rintro e w2 ⟨uu, rfl, hown, hK2⟩
              have hK3 : Keeps wr w2 := Keeps.trans hKA hK2
              replace hcall := hcall w2 (hR.keeps hK3)
              have a1 := (((Blk.new wr 50 [.int .i64 K, .int .i64 (n : Int), .slice lp zs.length lcap]).below hK2 (by simp)).cell 1 (by simp))
              simp only [List.getElem_cons_zero, List.getElem_cons_succ] at a1
              clear hown hrt
              go_wp2_with fail
              with_reducible refine hcall.mono ?_
              rintro e w3 ⟨rfl, nq, rfl⟩
              have hK4 : Keeps wr (w2.drewN nq) := Keeps.trans hK3 (Keeps.drewN _ _)
              replace hR := hR.keeps hK4
              replace hm := Lib.hid (Slc.below hm.out hK4)
              replace hK := Keeps.trans hK hK4
              clear hK3 hK2 hKA hcall hK4
              go_wp2_with fail
              refine (i64.len_any hR).mono ?_
              rintro e wA ⟨rfl, rfl⟩
              go_wp2_with fail
              refine (i64.room_any hR).mono ?_
              rintro e wA ⟨rfl, rfl⟩
              go_wp2_with fail
              refine (i64.list_any hR).mono ?_
              rintro e wB ⟨uu, rfl, hu, hKB⟩
              have hsame := same_any xs xs uu _ wB (slc_of_row hu) (Slc.below hm.out hKB)
              rw [sameL_self] at hsame
              clear hu
              go_wp2_with fail
              with_reducible refine hsame.mono ?_
              rintro e wC ⟨rfl, hKC⟩
              go_wp2_with fail
              go_roundw
              case rel => exact ⟨k + 1, hd, xs, by omega, by go_num, hR.keeps (Keeps.trans hKB hKC), Slc.below hm.out (Keeps.trans hKB hKC), hsep.out, Keeps.trans hK (Keeps.trans hKB hKC)⟩
              case measure => (simp [intOf]; try omega)
            · have hrt := refTake_no xs I _ (wr.alloc (.cells #[.int .i64 K, .int .i64 I, .slice lp zs.length lcap] 50)) (Slc.below hm.out hKA) (by omega)
              replace hR := hR.keeps hKA
              have hcall := i64.at_no _ I _ (.inr ⟨_, _, _, _, _, rfl, hR, by omega⟩)
              replace hm := Lib.hid (Slc.below hm.out hKA)
              replace hK := Keeps.trans hK hKA
              clear hin
              go_wp2_with fail
              with_reducible refine hrt.mono ?_
              rintro e w2 ⟨rfl, rfl⟩
              go_wp2_with fail
              with_reducible refine hcall.mono ?_
              rintro e w3 ⟨rfl, rfl⟩
              clear hrt hcall hKA
              go_wp2_with fail
              refine (i64.len_any hR).mono ?_
              rintro e wA ⟨rfl, rfl⟩
              go_wp2_with fail
              refine (i64.room_any hR).mono ?_
              rintro e wA ⟨rfl, rfl⟩
              go_wp2_with fail
              refine (i64.list_any hR).mono ?_
              rintro e wB ⟨uu, rfl, hu, hKB⟩
              have hsame := same_any xs xs uu _ wB (slc_of_row hu) (Slc.below hm.out hKB)
              rw [sameL_self] at hsame
              clear hu
              go_wp2_with fail
              with_reducible refine hsame.mono ?_
              rintro e wC ⟨rfl, hKC⟩
              go_wp2_with fail
              go_roundw
              case rel => exact ⟨k + 1, hd, xs, by omega, by go_num, hR.keeps (Keeps.trans hKB hKC), Slc.below hm.out (Keeps.trans hKB hKC), hsep.out, Keeps.trans hK (Keeps.trans hKB hKC)⟩
              case measure => (simp [intOf]; try omega)
        · obtain ⟨mp, mcap, rfl, hm1, hm2, hmc⟩ := hm.open
          clear hcell hmc hm hsep
          go_wp2_with fail
          refine (known02_any _).mono ?_
          rintro e w2 ⟨rfl, hK2⟩
          go_wp2_with fail
          go_ret
          exact ⟨rfl, Keeps.trans hK hK2⟩
      · obtain rfl : k = acts.length := by omega
        clear hcell hm hsep
        go_wp2_with fail
        refine (known02_any _).mono ?_
        rintro e w2 ⟨rfl, hK2⟩
        go_wp2_with fail
        go_ret
        exact ⟨rfl, Keeps.trans hK hK2⟩
end Go.Proofs.Ytkchcckdfbpdmaa
