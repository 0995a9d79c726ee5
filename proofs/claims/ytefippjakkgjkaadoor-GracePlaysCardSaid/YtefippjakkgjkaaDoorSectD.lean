/- The walks of package sect: Enter, Open. -/
import Derived.Test.YtefippjakkgjkaaDoorSectC
import Derived.Test.YtefippjakkgjkaaDoorMaskI
namespace Go.Proofs.YtefippjakkgjkaaDoor
open Go.RowKit Go.Shelf
attribute [local go_sem] Oper.semAt_some

theorem Slc.chgN {S : Nat → Prop} {w w' : World} {v : Value} {xs : List Value} (h : Slc w v xs) (hm : Chg S w w') (hsep : ∀ b, v.ownBlock = some b → 0 < xs.length → ¬ S b) : Slc w' v xs := by
  obtain ⟨q, cap, rfl, hl, hc, hn, h⟩ := h
  refine ⟨q, cap, rfl, hl, hc, hn, fun k hk => ?_⟩
  obtain ⟨c, off, rfl, hcell⟩ := h k hk
  exact ⟨c, off, rfl, (World.cell?_of_block (w := w) (hm.block c (cell_lt hcell) (hsep c rfl (by omega)))).trans hcell⟩
theorem Slc.ownLt {w : World} {v : Value} {xs : List Value} (h : Slc w v xs) : ∀ b, v.ownBlock = some b → 0 < xs.length → b < w.heap.size := by
  intro b hb h0
  obtain ⟨q, cap, rfl, _, _, _, h⟩ := h
  obtain ⟨c, off, rfl, hcell⟩ := h 0 h0
  obtain rfl : c = b := by simpa [Value.ownBlock] using hb
  exact cell_lt hcell
set_option maxHeartbeats 400000 in
theorem enters_nil (p : Option Addr) (n c : Nat) (w : World) : Calls Tryd.prog 49 #[.pointer none, .slice p n c] w fun e w' => e = .returned (.int .i64 6) ∧ w = w' := by
  go_enter Tryd.func49, Tryd.ntmps49
  go_wp2
  go_ret
  exact ⟨rfl, rfl⟩
theorem SSt.ents_cons (S : SSt) (r : Int) (l : List Int) : S.ents (r :: l) = if S.entE r = 0 then (S.ent r).ents l else (S, S.entE r) := rfl
set_option maxRecDepth 100000 in
set_option maxHeartbeats 1000000 in
theorem enters_any {w : World} {p : Nat} {S : SSt} (h : SectAt w p S) (v : Value) (zs : List Int) (hv : Ints w v zs) (hsep : ∀ b, v.ownBlock = some b → 0 < zs.length → b ≠ p) (hst : S.st + zs.length < 1000000) :
    Calls Tryd.prog 49 #[.pointer (some ⟨p, 0, none⟩), v] w fun e w' => e = .returned (.int .i64 (S.ents zs).2) ∧ SectAt w' p (S.ents zs).1 ∧ Chg (· = p) w w' := by
  obtain ⟨q, cap, rfl, hl, hc, _⟩ := hv.open
  replace hv := Lib.hid hv
  replace hsep := Lib.hid hsep
  replace h := Lib.hid h
  go_enter Tryd.func49, Tryd.ntmps49
  go_wp2_with fail
  go_loopw [12] (fun i wr => ∃ (k : Nat) (T : SSt), k ≤ zs.length ∧ i = .int .i64 k ∧ SectAt wr p T ∧ Chg (· = p) w wr ∧ T.st ≤ S.st + k ∧ Hid (T.ents (zs.drop k) = S.ents zs)) (fun i _ => zs.length - (intOf i).toNat)
  case atStart => exact ⟨0, S, Nat.zero_le _, rfl, h.out, Chg.refl _ _, Nat.le_refl _, Lib.hid rfl⟩
  case round =>
    clear h
    obtain ⟨k, T, hk, rfl, hT, hC, hTs, hE⟩ := hrel
    by_cases hlt : k < zs.length
    · obtain ⟨q', cap', hv', _, _, hcell⟩ := Ints.open (Slc.chgN hv.out hC (fun b hb h0 => hsep.out b hb (by simpa using h0)))
      obtain ⟨b, off, hp, hc1⟩ := hcell k hlt
      have hq : q = some ⟨b, off, none⟩ := by simp at hv'; rw [hv'.1]; exact hp
      subst hq
      have hen := enter1_any hT (by omega) zs[k]
      have hst1 := SSt.ent_st T zs[k]
      have hE' := hE.out
      rw [List.drop_eq_getElem_cons hlt, SSt.ents_cons] at hE'
      clear hcell hv' hp hT
      generalize zs[k] = z at *
      by_cases h0 : T.entE z = 0
      · rw [if_pos h0] at hE'
        rw [h0] at hen
        generalize T.ent z = T2 at *
        replace hE' := Lib.hid hE'
        replace hen := Lib.hid hen
        replace hC := Lib.hid hC
        clear hE h0
        go_wp2_with fail
        refine hen.out.mono ?_
        rintro e w' ⟨rfl, hT2, hC2⟩
        replace hT2 := Lib.hid hT2
        replace hC2 := Lib.hid hC2
        go_wp2_with fail
        go_roundw
        case rel => exact ⟨k + 1, T2, by omega, by go_num, hT2.out, hC.out.trans hC2.out, by omega, hE'⟩
        case measure => (simp [intOf]; try omega)
      · rw [if_neg h0] at hE'
        have hb : (T.entE z != 0) = true := by simpa using h0
        have hTT : T.ent z = T := by
          unfold SSt.entE at h0
          unfold SSt.ent
          split
          · rename_i hr; rw [if_pos hr] at h0
            split
            · rfl
            · rename_i h8; rw [if_neg h8] at h0; exact absurd rfl h0
          · rfl
        rw [hTT] at hen
        clear hTT hE hst1
        replace hE' := Lib.hid hE'
        generalize T.entE z = E at *
        replace hen := Lib.hid hen
        replace hC := Lib.hid hC
        replace h0 := Lib.hid h0
        go_wp2_with fail
        refine hen.out.mono ?_
        rintro e w' ⟨rfl, hT2, hC2⟩
        replace hT2 := Lib.hid hT2
        replace hC2 := Lib.hid hC2
        go_wp2_with fail
        go_ret
        exact ⟨ret_int (congrArg Prod.snd hE'.out), by rw [← hE'.out]; exact hT2.out, hC.out.trans hC2.out⟩
    · obtain rfl : k = zs.length := by omega
      have hE' := hE.out
      rw [List.drop_length] at hE'
      replace hE' := Lib.hid hE'
      clear hE
      replace hT := Lib.hid hT
      replace hC := Lib.hid hC
      go_wp2_with fail
      go_ret
      exact ⟨ret_int (congrArg Prod.snd hE'.out), by rw [← hE'.out]; exact hT.out, hC.out⟩

/-- Whose sections are open up to a stamp, of the first k that are inside. -/
def openTo (S : SSt) (stamp : Int) (k : Nat) : List Nat := ((listN S.m).take k).filter fun r => decide ((S.sin r : Int) ≤ stamp)
theorem openTo_succ (S : SSt) (stamp : Int) (k : Nat) (h : k < (listN S.m).length) : openTo S stamp (k + 1) = openTo S stamp k ++ (if (S.sin (listN S.m)[k] : Int) ≤ stamp then [(listN S.m)[k]] else []) := by
  unfold openTo
  rw [List.take_succ_eq_append_getElem h, List.filter_append, List.filter_cons]
  by_cases e : (S.sin (listN S.m)[k] : Int) ≤ stamp <;> simp [e]
theorem openTo_pre (S : SSt) (stamp : Int) (k m : Nat) (h : k ≤ m) : openTo S stamp k <+: openTo S stamp m := by
  unfold openTo
  exact List.IsPrefix.filter _ (List.take_prefix_take_left (l := listN S.m) h)
/-- Whose sections are open up to a stamp, as a word. -/
def openN (S : SSt) (stamp : Int) : Nat := withN 0 ((openTo S stamp (listN S.m).length).map fun (k : Nat) => (k : Int))
def castL (l : List Nat) : List Int := l.map fun (k : Nat) => (k : Int)
theorem castL_snoc (l : List Nat) (x : Nat) : castL (l ++ [x]) = castL l ++ [(x : Int)] := by simp [castL]
theorem withN_snoc (m : Nat) (l : List Int) (x : Int) : withN m (l ++ [x]) = withN (withN m l) [x] := by simp [withN, List.foldl_append]
end Go.Proofs.YtefippjakkgjkaaDoor
