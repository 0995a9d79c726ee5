/- The laws SectMany, SectPlays: what their walks come to. -/
import Derived.Test.YtjinekckpgincaaDoorLaw09
namespace Go.Proofs.YtjinekckpgincaaDoor
open Go.RowKit Go.Shelf

/-- What holds between two calls: sections at p and the document's deeds u. -/
structure InvT (w : World) (p : Nat) (S : SSt) (l : List (Int × Bool)) (u : Value) (W : World) : Prop where
  sect : SectAt W p S
  deeds : Deeds W u l
  good : Good l
  sep : ∀ c, u.ownBlock = some c → c ≠ p
  keeps : Keeps w W
abbrev InvS (w : World) (p : Nat) (l : List (Int × Bool)) (u : Value) (W : World) : Prop := InvT w p (runD l) l u W
theorem InvT.kept {w : World} {p : Nat} {S : SSt} {l : List (Int × Bool)} {u : Value} {W W' : World} (h : InvT w p S l u W) (hk : Keeps W W') : InvT w p S l u W' :=
  ⟨h.sect.keeps hk, h.deeds.keeps hk, h.good, h.sep, Keeps.trans h.keeps hk⟩
/-- The reference has a new list. -/
theorem InvT.told {w : World} {p : Nat} {S : SSt} {l l2 : List (Int × Bool)} {u u2 : Value} {W W2 : World} (h : InvT w p S l u W) (hN : DeedsN W u u2 l2 W2) (hg : Good l2) : InvT w p S l2 u2 W2 := by
  obtain ⟨h1, h2, h3⟩ := hN
  have hplt := h.sect.hdr.lt
  refine ⟨h.sect.keeps h3, h1, hg, ?_, Keeps.trans h.keeps h3⟩
  rcases h2 with rfl | h2
  · exact h.sep
  · intro c hc; have := h2 c hc; omega
/-- The program has new sections. -/
theorem InvT.done {w : World} {p : Nat} {S S2 : SSt} {l : List (Int × Bool)} {u : Value} {W W2 : World} (h : InvT w p S l u W) (hp : w.heap.size ≤ p) (hC : Chg (· = p) W W2) (hS : SectAt W2 p S2) : InvT w p S2 l u W2 :=
  ⟨hS, SlcS.chg h.deeds hC h.sep, h.good, h.sep, Chg.keeps hC h.keeps (fun k hk => by omega)⟩
theorem InvT.start {w W : World} {p : Nat} (hS : SectAt W p .init) (hK : Keeps w W) : InvT w p .init [] (.slice none 0 0) W :=
  ⟨hS, SlcS.nil 2 W, Good.nil, fun c hc => (by simp [Value.ownBlock] at hc), hK⟩

set_option maxRecDepth 100000 in
set_option maxHeartbeats 2000000 in
theorem lawMany_any (v : Value) (zs0 : List Int) (w : World) (hv0 : Ints w v zs0) (hT : TabAt w) :
    Calls Tryd.prog 3 #[v] w fun e w' => e = .returned (.bool true) ∧ Keeps w w' := by
  obtain ⟨q, cap, rfl, hl0, hc0, hl1, hcase⟩ := hv0.upto 80
  obtain ⟨n, zs, hn, hlen, hv, hcase⟩ : ∃ (n : Nat) (zs : List Int), zs.length = n ∧ n ≤ 80 ∧ Ints w (.slice q n cap) zs ∧ ((zs0.length ≤ 80 ∧ n = zs0.length) ∨ (80 < zs0.length ∧ n = 80)) := by
    rcases hcase with ⟨h1, h2⟩ | ⟨h1, h2⟩
    · exact ⟨zs0.length, zs0, rfl, h1, h2, .inl ⟨h1, rfl⟩⟩
    · exact ⟨80, zs0.take 80, by rw [List.length_take]; omega, Nat.le_refl _, h2, .inr ⟨h1, rfl⟩⟩
  have hz := zeroSect
  have hown := Slc.ownLt hv
  rw [List.length_map, hn] at hown
  replace hv := Lib.hid hv
  replace hown := Lib.hid hown
  replace hn := Lib.hid hn
  replace hT := Lib.hid hT
  clear hv0
  have hfront : ((zs0.length : Int) ≤ 80 ∧ n = zs0.length) ∨ ((80 : Int) < zs0.length ∧ n = 80) := by omega
  clear hcase
  rcases hfront with ⟨hb, hnz⟩ | ⟨hb, hnz⟩
  all_goals
    subst hnz
    go_enter Tryd.func3, Tryd.ntmps3
    go_upto_region 4 with (fail)
    refine wp_gen (fun W => SectAt W w.heap.size .init ∧ Keeps w W ∧ w.heap.size < W.heap.size) ⟨sect_new w, Keeps.alloc _ _, by simp⟩ ?_
    rintro W1 ⟨hS, hK, hplt⟩
    have hI := InvT.start hS hK
    replace hI := Lib.hid hI
    clear hS hK hplt
    go_wp2_with fail
    generalize hp : w.heap.size = p at *
    have hsize := hp
    replace hp := Lib.hid hp
    clear hsize hz
    go_loopw [4, 5, 6] (fun m e i wr => ∃ (k : Nat) (l : List (Int × Bool)) (u : Value) (E : Int), k ≤ zs.length ∧ i = .int .i64 k ∧ u = m ∧ e = .int .i64 E ∧ InvT w p .init l u wr ∧ l.length ≤ k ∧ Hid ((if E = 0 then (runD l).ents (zs.drop k) else (runD l, E)) = SSt.init.ents zs)) (fun _ _ i _ => zs.length - (intOf i).toNat)
    case atStart => exact ⟨0, [], _, 0, Nat.zero_le _, rfl, rfl, rfl, hI.out, Nat.le_refl _, Lib.hid rfl⟩
    case round =>
      clear hI
      obtain ⟨k, l, u, E, hk, rfl, rfl, rfl, hI, hll, hE⟩ := hrel
      rw [hn.out] at hk
      replace hI := Lib.hid hI
      have hstop : ∀ (W : World), Keeps wr W → (E ≠ 0 ∨ ¬ k < zs.length) → True := fun _ _ _ => trivial
      clear hstop
      have hgo : (E = 0 ∧ k < zs.length) ∨ ((E ≠ 0 ∨ ¬ k < zs.length) ∧ (runD l, E) = SSt.init.ents zs) := by
        by_cases h0 : E = 0
        · by_cases hlt : k < zs.length
          · exact .inl ⟨h0, hlt⟩
          · refine .inr ⟨.inr hlt, ?_⟩
            have := hE.out
            rw [if_pos h0, List.drop_eq_nil_of_le (by omega)] at this
            rw [h0]; exact this
        · refine .inr ⟨.inl h0, ?_⟩
          have := hE.out
          rwa [if_neg h0] at this
      rcases hgo with ⟨rfl, hlt⟩ | ⟨hst, hfin⟩
      · have hE' := hE.out
        rw [if_pos rfl, List.drop_eq_getElem_cons hlt, SSt.ents_cons] at hE'
        obtain ⟨q', cap', hv', _, _, hcell⟩ := Ints.open (Slc.below hv.out hI.out.keeps)
        obtain ⟨b, off, hp', hc1⟩ := hcell k hlt
        obtain rfl : q = some ⟨b, off, none⟩ := by simp at hv'; rw [hv'.1]; exact hp'
        rw [hn.out] at hlt
        have hen := rEnter_any u l zs[k] wr hI.out.deeds hI.out.good (by omega)
        have hg2 := entD_good hI.out.good zs[k]
        have hrd := runD_ent l zs[k]
        have hl2 := entD_len l zs[k]
        have hcont : (if (runD l).entE zs[k] = 0 then (runD (entD l zs[k])).ents (zs.drop (k + 1)) else (runD (entD l zs[k]), (runD l).entE zs[k])) = SSt.init.ents zs := by
          rw [← hE', hrd]
          split
          · rfl
          · rename_i h; rw [SSt.ent_bad h]
        clear hcell hv' hp' hE' hE hrd
        generalize zs[k] = z at *
        generalize (runD l).entE z = E2 at *
        generalize entD l z = l2 at *
        replace hen := Lib.hid hen
        replace hcont := Lib.hid hcont
        replace hg2 := Lib.hid hg2
        have hltI := Int.ofNat_lt.2 hlt
        try push_cast at hltI
        go_wp2_with fail
        refine hen.out.mono ?_
        rintro e w2 ⟨u2, rfl, hN⟩
        have hI2 := hI.out.told hN hg2.out
        obtain ⟨q2, c2, rfl, _⟩ := hN.1.get
        replace hI2 := Lib.hid hI2
        clear hN
        go_wp2_with fail
        go_roundw
        case rel => exact ⟨k + 1, l2, _, E2, by have := hn.out; omega, by go_num, rfl, rfl, hI2.out, by omega, hcont⟩
        case measure => (simp [intOf]; try omega)
      · have hw : ∀ W : World, Keeps wr W → InvT w p .init l u W := fun W hk => hI.out.kept hk
        have hst' : (¬ k < zs.length) ∨ (k < zs.length ∧ ((E == 0) = false)) := by
          by_cases h : k < zs.length
          · refine .inr ⟨h, ?_⟩
            rcases hst with h2 | h2
            · simpa using h2
            · exact absurd h h2
          · exact .inl h
        have hpw : w.heap.size ≤ p := Nat.le_of_eq hp.out
        have hem := fun (W : World) (hk : Keeps wr W) => enters_any (hw W hk).sect _ zs (Slc.below hv.out (hw W hk).keeps) (fun b hb h0 => by
          have := hown.out b hb (by rw [← hn.out]; exact h0); omega) (by rw [hn.out]; show 0 + _ < _; omega)
        rw [← hfin] at hem
        have hri := fun (W : World) (u' : Value) (h : InvT w p (runD l) l u' W) => rIn_any u' l (-1) W h.deeds h.good (by omega)
        rw [inF_all (runD_ok l)] at hri
        obtain ⟨q2, c2, rfl, _⟩ := hI.out.deeds.get
        rw [hn.out] at hst'
        replace hw := Lib.hid hw
        replace hem := Lib.hid hem
        replace hri := Lib.hid hri
        clear hE hst
        rcases hst' with hnl | ⟨hlt, he0⟩
        · have hltI : ¬ ((k : Int) < _) := fun h => hnl (Int.ofNat_lt.1 h)
          try push_cast at hltI
          go_wp2_with fail
          refine (known09_any _ (hT.out.keeps hI.out.keeps)).mono ?_
          rintro e w2 ⟨rfl, hK2⟩
          have hem2 := hem.out w2 hK2
          have hI2 := hw.out w2 hK2
          replace hem2 := Lib.hid hem2
          replace hI2 := Lib.hid hI2
          clear hK2
          go_wp2_with fail
          refine hem2.out.mono ?_
          rintro e w3 ⟨rfl, hS3, hC3⟩
          have hI3 := hI2.out.done hpw hC3 hS3
          have hri3 := hri.out w3 _ hI3
          replace hI3 := Lib.hid hI3
          replace hri3 := Lib.hid hri3
          clear hS3 hC3 hem2
          go_wp2_with fail
          refine (in_any hI3.out.sect).mono ?_
          rintro e w4 ⟨rfl, rfl⟩
          go_wp2_with fail
          refine hri3.out.mono ?_
          rintro e w5 ⟨rfl, hK5⟩
          go_wp2_with fail
          go_ret
          exact ⟨rfl, Keeps.trans hI3.out.keeps hK5⟩
        · have hltI := Int.ofNat_lt.2 hlt
          try push_cast at hltI
          go_wp2_with fail
          refine (known09_any _ (hT.out.keeps hI.out.keeps)).mono ?_
          rintro e w2 ⟨rfl, hK2⟩
          have hem2 := hem.out w2 hK2
          have hI2 := hw.out w2 hK2
          replace hem2 := Lib.hid hem2
          replace hI2 := Lib.hid hI2
          clear hK2
          go_wp2_with fail
          refine hem2.out.mono ?_
          rintro e w3 ⟨rfl, hS3, hC3⟩
          have hI3 := hI2.out.done hpw hC3 hS3
          have hri3 := hri.out w3 _ hI3
          replace hI3 := Lib.hid hI3
          replace hri3 := Lib.hid hri3
          clear hS3 hC3 hem2
          go_wp2_with fail
          refine (in_any hI3.out.sect).mono ?_
          rintro e w4 ⟨rfl, rfl⟩
          go_wp2_with fail
          refine hri3.out.mono ?_
          rintro e w5 ⟨rfl, hK5⟩
          go_wp2_with fail
          go_ret
          exact ⟨rfl, Keeps.trans hI3.out.keeps hK5⟩
end Go.Proofs.YtjinekckpgincaaDoor
