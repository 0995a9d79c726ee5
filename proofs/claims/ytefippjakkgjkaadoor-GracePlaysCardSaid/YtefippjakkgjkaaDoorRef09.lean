/- The walks of detentref09: Depth, Stamps. -/
import Derived.Test.YtefippjakkgjkaaDoorDeedM
import Derived.Test.YtefippjakkgjkaaDoorQuiet
import Derived.Test.YtefippjakkgjkaaDoorStr
namespace Go.Proofs.YtefippjakkgjkaaDoor
open Go.RowKit

def deedEl (d : Int × Bool) : List Value := [.int .i64 d.1, .bool d.2]
/-- A slice of deeds. -/
def Deeds (w : World) (v : Value) (l : List (Int × Bool)) : Prop := SlcS 2 w v (l.map deedEl)
theorem Deeds.get {w : World} {v : Value} {l : List (Int × Bool)} (h : Deeds w v l) : ∃ p cap, v = .slice p l.length cap ∧ l.length ≤ cap ∧ cap ≤ 9223372036854775807 ∧
    ∀ i, (hi : i < l.length) → ∃ b off, p = some ⟨b, off, none⟩ ∧ w.cell? ⟨b, off + i * 2, none⟩ = some (.int .i64 l[i].1) ∧ w.cell? ⟨b, off + i * 2 + 1, none⟩ = some (.bool l[i].2) := by
  obtain ⟨p, cap, hv, hl, hc, hcell⟩ := SlcS.get h
  rw [List.length_map] at hv hl hcell
  refine ⟨p, cap, hv, hl, hc, fun i hi => ?_⟩
  obtain ⟨b, off, hp, hk⟩ := hcell i hi
  have h0 := hk 0 (by omega)
  have h1 := hk 1 (by omega)
  refine ⟨b, off, hp, ?_, ?_⟩
  · rw [Nat.add_zero] at h0; rw [h0]; simp [List.getD, hi, deedEl]
  · rw [h1]; simp [List.getD, hi, deedEl]
theorem Deeds.keeps {w w' : World} {v : Value} {l : List (Int × Bool)} (h : Deeds w v l) (hk : Keeps w w') : Deeds w' v l := SlcS.below h hk

set_option maxHeartbeats 800000 in
theorem rDepth_any (v : Value) (l : List (Int × Bool)) (r : Int) (w : World) (hv : Deeds w v l) (_hl : l.length ≤ 100000) :
    Calls Tryd.prog 32 #[v, .int .i64 r] w fun e w' => e = .returned (.int .i64 (dTo l r)) ∧ w = w' := by
  obtain ⟨p, cap, rfl, hc1, hc2, hcell⟩ := hv.get
  replace hcell := Lib.hid hcell
  have hb := dTo_bound l r
  have hsu := dTo_succ l r
  replace hb := Lib.hid hb
  replace hsu := Lib.hid hsu
  clear hv
  go_enter Tryd.func32, Tryd.ntmps32
  go_wp2_with fail
  go_loop [5, 6] (fun n i => ∃ k : Nat, k ≤ l.length ∧ i = .int .i64 k ∧ n = .int .i64 (dTo (l.take k) r)) (fun _ i => l.length - (intOf i).toNat)
  case atStart => exact ⟨0, Nat.zero_le _, rfl, rfl⟩
  case round =>
    obtain ⟨k, hk, rfl, rfl⟩ := hrel
    by_cases hlt : k < l.length
    · obtain ⟨b, off, rfl, c0, c1⟩ := hcell.out k hlt
      have hb1 := hb.out k hk
      have hs := hsu.out k hlt
      generalize l[k].1 = x at *
      generalize l[k].2 = o at *
      generalize hnx : dTo (l.take (k + 1)) r = nx at *
      replace hnx := Lib.hid hnx
      generalize dTo (l.take k) r = n at *
      by_cases e1 : x = r
      · subst e1
        cases o with
        | true =>
          rw [if_pos ⟨rfl, rfl⟩] at hs
          replace hs := Lib.hid hs
          go_wp2_with fail
          go_round
          case rel => exact ⟨k + 1, by omega, by go_num, by rw [hnx.out, hs.out]⟩
          case measure => (simp [intOf]; try omega)
        | false =>
          rw [if_neg (by simp), if_pos rfl] at hs
          replace hs := Lib.hid hs
          go_wp2_with fail
          go_round
          case rel => exact ⟨k + 1, by omega, by go_num, by rw [hnx.out, hs.out]⟩
          case measure => (simp [intOf]; try omega)
      · rw [if_neg (fun h => e1 h.1), if_neg e1] at hs
        replace hs := Lib.hid hs
        have e1' : (x == r) = false := by simpa using e1
        go_wp2_with fail
        go_round
        case rel => exact ⟨k + 1, by omega, by go_num, by rw [hnx.out, hs.out]⟩
        case measure => (simp [intOf]; try omega)
    · obtain rfl : k = l.length := by omega
      go_wp2_with fail
      go_ret
      exact ⟨rfl, rfl⟩

/-- The depths of all readers as cells. -/
def depCells (S : SSt) : List Value := (List.range 64).map fun (j : Nat) => Value.int .i64 (S.dep j : Nat)
theorem depCells_len (S : SSt) : (depCells S).length = 64 := by simp [depCells]
theorem depCells_get (S : SSt) (k : Nat) (h : k < 64) : (depCells S)[k]? = some (.int .i64 (S.dep k : Nat)) := by simp [depCells, h]
theorem depCells_init : depCells .init = List.replicate 64 (.int .i64 0) := by
  apply List.ext_getElem?
  intro k
  by_cases h : k < 64
  · rw [depCells_get _ _ h, SSt.init_dep, List.getElem?_replicate, if_pos h]; rfl
  · rw [List.getElem?_eq_none (by rw [depCells_len]; omega), List.getElem?_eq_none (by rw [List.length_replicate]; omega)]
theorem depCells_set (S T : SSt) (k x : Nat) (hk : k < 64) (h : ∀ j, T.dep j = if k = j then x else S.dep j) : (depCells S).set k (.int .i64 (x : Int)) = depCells T := by
  apply List.ext_getElem?
  intro j
  by_cases hj : j < 64
  · rw [depCells_get T j hj, h j]
    by_cases e : k = j
    · subst e; rw [List.getElem?_set_self (by rw [depCells_len]; exact hk), if_pos rfl]
    · rw [List.getElem?_set_ne e, depCells_get S j hj, if_neg e]
  · rw [List.getElem?_eq_none (by rw [List.length_set, depCells_len]; omega), List.getElem?_eq_none (by rw [depCells_len]; omega)]
theorem Blk.cellG {W : World} {b : Nat} {t : TypeId} {cs : List Value} (h : Blk W b t cs) {k : Nat} {v : Value} (hk : cs[k]? = some v) : W.cell? ⟨b, k, none⟩ = some v := by
  obtain ⟨hlt, e⟩ := List.getElem?_eq_some_iff.1 hk
  rw [h.cell k hlt, e]

set_option maxRecDepth 100000 in
set_option maxHeartbeats 2000000 in
theorem rStamps_any (v : Value) (l : List (Int × Bool)) (r : Int) (w : World) (hv : Deeds w v l) (hg : Good l) (_hl : l.length ≤ 100000) :
    Calls Tryd.prog 59 #[v, .int .i64 r] w fun e w' => e = .returned (.tuple #[.int .i64 ((runD l).st : Nat), .int .i64 ((runD l).sinI r)]) ∧ Keeps w w' := by
  obtain ⟨p, cap, rfl, hc1, hc2, _⟩ := hv.get
  replace hv := Lib.hid hv
  replace hg := Lib.hid hg
  go_enter Tryd.func59, Tryd.ntmps59
  go_upto_region 2 with (fail)
  refine wp_gen (fun W => Blk W w.heap.size 27 (depCells .init) ∧ Keeps w W) ⟨Blk.at rfl (by rw [depCells_init]; rfl), Keeps.alloc _ _⟩ ?_
  rintro W0 ⟨hB, hK⟩
  go_wp2_with fail
  go_loopw [7, 8, 9] (fun n t i wr => ∃ k : Nat, k ≤ l.length ∧ i = .int .i64 k ∧ n = .int .i64 ((runD (l.take k)).st : Nat) ∧ t = .int .i64 ((runD (l.take k)).sinI r) ∧ Blk wr w.heap.size 27 (depCells (runD (l.take k))) ∧ Keeps w wr) (fun _ _ i _ => l.length - (intOf i).toNat)
  case atStart => exact ⟨0, Nat.zero_le _, rfl, rfl, by show _ = Value.int .i64 (SSt.init.sinI r); unfold SSt.sinI; rw [SSt.init_sin]; split <;> rfl, hB, hK⟩
  case round =>
    clear hB hK
    obtain ⟨k, hk, rfl, rfl, rfl, hB, hK⟩ := hrel
    by_cases hlt : k < l.length
    · obtain ⟨p', cap', hv', _, _, hcell⟩ := (hv.out.keeps hK).get
      obtain ⟨b, off, hp, c0, c1⟩ := hcell k hlt
      obtain rfl : p = some ⟨b, off, none⟩ := by simp at hv'; rw [hv'.1]; exact hp
      obtain ⟨x, e1, hx, hstep⟩ := (runD_ok (l.take k)).stepped l[k] (hg.out k hlt)
      have hsu := runD_succ l k hlt
      have hbl := cell_lt c0
      rw [← hsu] at hstep
      have hst := runD_st (l.take k)
      rw [List.length_take] at hst
      have hd8 := (runD_ok (l.take k)).dep8 x
      have hcx := hB.cellG (depCells_get _ x hx)
      have hfx := hB.frozen x
      have hx0 : (0 : Int) ≤ (x : Int) := by omega
      have hx1 : (x : Int) < 64 := by omega
      have hne : b < w.heap.size := by
        obtain ⟨_, _, hv2, _, _, hc⟩ := hv.out.get
        obtain ⟨b', off', hp', c0', _⟩ := hc k hlt
        rw [hp'] at hv2
        simp only [Value.slice.injEq, Option.some.injEq, Addr.mk.injEq] at hv2
        rw [hv2.1.1]; exact cell_lt c0'
      have hbb : b ≠ w.heap.size := by omega
      generalize hT2 : runD (l.take (k + 1)) = T2 at *
      generalize runD (l.take k) = T at *
      rw [e1] at c0
      clear hcell hv' hp hsu hbl e1
      have hrng : ∀ S : SSt, S.sinI r = if 0 ≤ r ∧ r < 64 then ((S.sin r.toNat : Nat) : Int) else 0 := fun S => rfl
      replace hT2 := Lib.hid hT2
      have hKs : ∀ u, Keeps w (wr.setCell ⟨w.heap.size, x, none⟩ u) := fun u => Chg.keeps (S := (· = w.heap.size)) (Chg.setCell _ _ rfl) hK (fun j hj => by omega)
      rcases hstep with ⟨ho, hd0, hs2, hj⟩ | ⟨ho, hd7, hs2, hj⟩
      · -- out
        rw [ho] at c1
        have hset : Blk (wr.setCell ⟨w.heap.size, x, none⟩ (.int .i64 ((T.dep x : Nat) - 1))) w.heap.size 27 (depCells T2) := by
          rw [← depCells_set T T2 x (T.dep x - 1) hx (fun j => (hj j).1), show ((T.dep x - 1 : Nat) : Int) = ((T.dep x : Nat) : Int) - 1 by omega]
          exact hB.set _ _
        have hsx := (hj x).2
        have hsj := fun (j : Nat) => (hj j).2
        have hat : (x : Int) = r → T.dep x = 1 → T2.sinI r = 0 := by
          intro e h1
          rw [hrng, if_pos (by omega), hsj, if_pos (by omega)]; rfl
        have hat2 : ¬ ((x : Int) = r ∧ T.dep x = 1) → T2.sinI r = T.sinI r := by
          intro h
          rw [hrng, hrng]
          split
          · rw [hsj, if_neg (fun h2 => h ⟨by omega, h2.2⟩)]
          · rfl
        replace hset := Lib.hid hset
        replace hat := Lib.hid hat
        replace hat2 := Lib.hid hat2
        replace hB := Lib.hid hB
        replace hKs := Lib.hid hKs
        clear hj hsx hsj ho hK hrng hv hg
        replace hs2 := Lib.hid hs2
        generalize T.sinI r = s at *
        generalize T.dep x = d at *
        generalize T.st = st at *
        by_cases er : (x : Int) = r
        · have er' : ((x : Int) == r) = true := by simpa using er
          by_cases h1 : d = 1
          · have hb1 : ((d : Int) - 1 == 0) = true := by simp; omega
            have hf := hat.out er h1
            replace hf := Lib.hid hf
            replace er := Lib.hid er
            replace h1 := Lib.hid h1
            go_wp2_with fail
            go_roundw
            case rel => exact ⟨k + 1, by omega, by go_num, by rw [hT2.out, hs2.out], by rw [hT2.out, hf.out], by rw [hT2.out]; exact hset.out, hKs.out _⟩
            case measure => (simp [intOf]; try omega)
          · have hb1 : ((d : Int) - 1 == 0) = false := by simp; omega
            have hf := hat2.out (fun h => h1 h.2)
            replace hf := Lib.hid hf
            replace er := Lib.hid er
            go_wp2_with fail
            go_roundw
            case rel => exact ⟨k + 1, by omega, by go_num, by rw [hT2.out, hs2.out], by rw [hT2.out, hf.out], by rw [hT2.out]; exact hset.out, hKs.out _⟩
            case measure => (simp [intOf]; try omega)
        · have er' : ((x : Int) == r) = false := by simpa using er
          have hf := hat2.out (fun h => er h.1)
          replace hf := Lib.hid hf
          replace er := Lib.hid er
          go_wp2_with fail
          go_roundw
          case rel => exact ⟨k + 1, by omega, by go_num, by rw [hT2.out, hs2.out], by rw [hT2.out, hf.out], by rw [hT2.out]; exact hset.out, hKs.out _⟩
          case measure => (simp [intOf]; try omega)
      · rw [ho] at c1
        have hset : Blk (wr.setCell ⟨w.heap.size, x, none⟩ (.int .i64 ((T.dep x : Nat) + 1))) w.heap.size 27 (depCells T2) := by
          rw [← depCells_set T T2 x (T.dep x + 1) hx (fun j => (hj j).1)]
          exact hB.set _ _
        have hsj := fun (j : Nat) => (hj j).2
        have hat : (x : Int) = r → T.dep x = 0 → T2.sinI r = ((T.st : Nat) : Int) + 1 := by
          intro e h1
          rw [hrng, if_pos (by omega), hsj, if_pos (by omega)]; omega
        have hat2 : ¬ ((x : Int) = r ∧ T.dep x = 0) → T2.sinI r = T.sinI r := by
          intro h
          rw [hrng, hrng]
          split
          · rw [hsj, if_neg (fun h2 => h ⟨by omega, h2.2⟩)]
          · rfl
        replace hset := Lib.hid hset
        replace hat := Lib.hid hat
        replace hat2 := Lib.hid hat2
        replace hB := Lib.hid hB
        replace hKs := Lib.hid hKs
        clear hj hsj ho hK hrng hv hg
        generalize T.sinI r = s at *
        generalize T.dep x = d at *
        generalize T.st = st at *
        by_cases h1 : d = 0
        · rw [if_pos h1] at hs2
          have hb1 : ((d : Int) + 1 == 1) = true := by simp; omega
          replace hs2 := Lib.hid hs2
          by_cases er : (x : Int) = r
          · have er' : ((x : Int) == r) = true := by simpa using er
            have hf := hat.out er h1
            replace hf := Lib.hid hf
            replace er := Lib.hid er
            replace h1 := Lib.hid h1
            go_wp2_with fail
            go_roundw
            case rel => exact ⟨k + 1, by omega, by go_num, by rw [hT2.out, hs2.out]; go_num, by rw [hT2.out, hf.out], by rw [hT2.out]; exact hset.out, hKs.out _⟩
            case measure => (simp [intOf]; try omega)
          · have er' : ((x : Int) == r) = false := by simpa using er
            have hf := hat2.out (fun h => er h.1)
            replace hf := Lib.hid hf
            replace er := Lib.hid er
            replace h1 := Lib.hid h1
            go_wp2_with fail
            go_roundw
            case rel => exact ⟨k + 1, by omega, by go_num, by rw [hT2.out, hs2.out]; go_num, by rw [hT2.out, hf.out], by rw [hT2.out]; exact hset.out, hKs.out _⟩
            case measure => (simp [intOf]; try omega)
        · rw [if_neg h1] at hs2
          have hb1 : ((d : Int) + 1 == 1) = false := by simp; omega
          have hf := hat2.out (fun h => h1 h.2)
          replace hs2 := Lib.hid hs2
          replace hf := Lib.hid hf
          go_wp2_with fail
          go_roundw
          case rel => exact ⟨k + 1, by omega, by go_num, by rw [hT2.out, hs2.out], by rw [hT2.out, hf.out], by rw [hT2.out]; exact hset.out, hKs.out _⟩
          case measure => (simp [intOf]; try omega)
    · obtain rfl : k = l.length := by omega
      go_wp2_with fail
      go_ret2
      exact ⟨by rw [List.take_length]; rfl, hK⟩

theorem infoDeed : (Tryd.prog.info? 105).map (fun i => (i.zero, i.size, i.bytes)) = some (some (.agg #[.int .i64 0, .bool false]), 2, 16) := by kernel_rfl
theorem deeds_one (l : List (Int × Bool)) : ∀ el ∈ l.map deedEl, ∀ y ∈ el, y.oneCell' = true := by
  intro el hel y hy
  obtain ⟨x, _, rfl⟩ := List.mem_map.1 hel
  simp only [deedEl, List.mem_cons, List.not_mem_nil, or_false] at hy
  rcases hy with rfl | rfl <;> rfl
/-- A list of the reference: the old one, or in new memory. -/
def DeedsN (w : World) (v0 v : Value) (l : List (Int × Bool)) (w' : World) : Prop := Deeds w' v l ∧ (v = v0 ∨ ∀ c, v.ownBlock = some c → w.heap.size ≤ c) ∧ Keeps w w'
/-- The deeds behind an attempt. -/
def entD (l : List (Int × Bool)) (r : Int) : List (Int × Bool) := if (runD l).entE r = 0 then l ++ [(r, false)] else l
def exiD (l : List (Int × Bool)) (r : Int) : List (Int × Bool) := if (runD l).exiE r = 0 then l ++ [(r, true)] else l
theorem entD_good {l : List (Int × Bool)} (h : Good l) (r : Int) : Good (entD l r) := by
  unfold entD; split
  · rename_i e; exact h.snoc (r, false) (by simpa [SSt.stepE] using e)
  · exact h
theorem exiD_good {l : List (Int × Bool)} (h : Good l) (r : Int) : Good (exiD l r) := by
  unfold exiD; split
  · rename_i e; exact h.snoc (r, true) (by simpa [SSt.stepE] using e)
  · exact h
theorem SSt.ent_bad {S : SSt} {r : Int} (h : S.entE r ≠ 0) : S.ent r = S := by
  unfold SSt.entE at h
  unfold SSt.ent
  split
  · rename_i hr; rw [if_pos hr] at h
    split
    · rfl
    · rename_i h8; rw [if_neg h8] at h; exact absurd rfl h
  · rfl
theorem SSt.exi_bad {S : SSt} {r : Int} (h : S.exiE r ≠ 0) : S.exi r = S := by
  unfold SSt.exiE at h
  unfold SSt.exi
  split
  · rename_i hr; rw [if_pos hr] at h
    split
    · rfl
    · rename_i h8; rw [if_neg h8] at h; exact absurd rfl h
  · rfl
theorem runD_ent (l : List (Int × Bool)) (r : Int) : runD (entD l r) = (runD l).ent r := by
  unfold entD; split
  · rw [runD_snoc]; rfl
  · rename_i h; rw [SSt.ent_bad h]
theorem runD_exi (l : List (Int × Bool)) (r : Int) : runD (exiD l r) = (runD l).exi r := by
  unfold exiD; split
  · rw [runD_snoc]; rfl
  · rename_i h; rw [SSt.exi_bad h]
theorem entD_len (l : List (Int × Bool)) (r : Int) : (entD l r).length ≤ l.length + 1 := by unfold entD; split <;> simp
theorem exiD_len (l : List (Int × Bool)) (r : Int) : (exiD l r).length ≤ l.length + 1 := by unfold exiD; split <;> simp

/-- What both of the reference's calls do last: the list with one more, in new memory. -/
theorem copied {w W : World} {v : Value} {l : List (Int × Bool)} (hK : Keeps w W) {v2 : Value} (h : RowS 2 w.heap.size 105 W v2 (l.map deedEl)) : DeedsN w v v2 l W :=
  ⟨h.slcs, .inr h.own, hK⟩

set_option maxRecDepth 100000 in
set_option maxHeartbeats 1000000 in
theorem rEnter_any (v : Value) (l : List (Int × Bool)) (r : Int) (w : World) (hv : Deeds w v l) (hg : Good l) (hl : l.length ≤ 100000) :
    Calls Tryd.prog 48 #[v, .int .i64 r] w fun e w' => ∃ u, e = .returned (.tuple #[u, .int .i64 ((runD l).entE r)]) ∧ DeedsN w v u (entD l r) w' := by
  have hdep := rDepth_any v l r w hv hl
  rw [dTo_all hg] at hdep
  obtain ⟨p, cap, rfl, hc1, hc2, _⟩ := hv.get
  by_cases hr : 0 ≤ r ∧ r < 64
  · have h1 : ¬ r < 0 := by omega
    have h2 : ¬ 63 < r := by omega
    have hd8 := (runD_ok l).dep8 r.toNat
    have e1 : (runD l).depI r = ((runD l).dep r.toNat : Nat) := if_pos hr
    have e2 : (runD l).entE r = if (runD l).dep r.toNat = 8 then 3 else 0 := if_pos hr
    rw [e1] at hdep
    unfold entD
    rw [e2]
    clear e1 e2
    generalize (runD l).dep r.toNat = d at *
    replace hdep := Lib.hid hdep
    by_cases h8 : d = 8
    · rw [if_pos h8]
      have h8' : (8 : Int) ≤ (d : Int) := by omega
      rw [if_neg (by decide)]
      replace hv := Lib.hid hv
      clear h8 hr
      go_enter Tryd.func48, Tryd.ntmps48
      go_wp2_with fail
      refine hdep.out.mono ?_
      rintro e w' ⟨rfl, rfl⟩
      go_wp2_with fail
      go_ret2
      exact ⟨_, rfl, hv.out, .inl rfl, Keeps.refl _⟩
    · rw [if_neg h8]
      have h8' : ¬ (8 : Int) ≤ (d : Int) := by omega
      rw [if_pos rfl]
      have hB0 := Keeps.alloc w (.cells #[] 105)
      have hsrc := hv.keeps hB0
      replace hv := Lib.hid hv
      replace hB0 := Lib.hid hB0
      replace hsrc := Lib.hid hsrc
      replace hl := Lib.hid hl
      clear h8 hr
      go_enter Tryd.func48, Tryd.ntmps48
      go_wp2_with fail
      refine hdep.out.mono ?_
      rintro e w' ⟨rfl, rfl⟩
      go_wp2_with (at_builtin; refine appN rfl _ _ 49 105 _ 2 16 rfl Tryd.underlying49 infoDeed rfl (by decide) w.heap.size _ [] rfl (RowS.empty 2 _ _ w (Nat.le_refl _)) _ (l.map deedEl) rfl hsrc.out (deeds_one l) ?c1 ?c2 ?c3 ?_)
      case c1 => have := hl.out; simp; unfold maxLen; omega
      case c2 => have := hl.out; simp; omega
      case c3 => exact hB0.out.size
      intro v1 W3 hrow _ hbel
      replace hrow : RowS 2 w.heap.size 105 W3 v1 (l.map deedEl) := by simpa using hrow
      have hK3 : Keeps w W3 := Below.trans hB0.out hbel
      obtain ⟨q1, cap1, rfl⟩ := hrow.any
      have hsz3 := hK3.size
      have hsrc2 : SlcS 2 (W3.alloc (.cells (deedEl (r, false)).toArray 105)) (.slice (some ⟨W3.heap.size, 0, none⟩) 1 1) ([(r, false)].map deedEl) := slcs_one (Blk.new W3 _ _) rfl
      have hrow2 := hrow.alloc (.cells (deedEl (r, false)).toArray 105)
      have hB1 := Keeps.alloc W3 (.cells (deedEl (r, false)).toArray 105)
      replace hsrc2 := Lib.hid hsrc2
      replace hrow2 := Lib.hid hrow2
      replace hB1 := Lib.hid hB1
      replace hK3 := Lib.hid hK3
      clear hrow hbel
      go_wp2_with (at_builtin; refine appN rfl _ _ 49 105 _ 2 16 rfl Tryd.underlying49 infoDeed rfl (by decide) w.heap.size _ _ rfl hrow2.out _ _ rfl hsrc2.out (deeds_one [(r, false)]) ?c1 ?c2 ?c3 ?_)
      case c1 => have := hl.out; simp; unfold maxLen; omega
      case c2 => have := hl.out; simp; omega
      case c3 => (simp only [World.size_alloc]; omega)
      intro v2 W4 hrow _ hbel
      replace hrow : RowS 2 w.heap.size 105 W4 v2 ((l ++ [(r, false)]).map deedEl) := by simpa using hrow
      have hK4 : Keeps w W4 := Below.trans hK3.out (Below.trans (Below.mono hB1.out hsz3) hbel)
      replace hrow := Lib.hid hrow
      go_wp2_with fail
      go_ret2
      exact ⟨_, rfl, copied hK4 hrow.out⟩
  · have hcase : r < 0 ∨ (¬ r < 0 ∧ 63 < r) := by omega
    have e2 : (runD l).entE r = 2 := if_neg hr
    unfold entD
    rw [e2, if_neg (by decide)]
    clear hdep e2 hr
    replace hv := Lib.hid hv
    rcases hcase with h1 | ⟨h1, h2⟩
    all_goals
      go_enter Tryd.func48, Tryd.ntmps48
      go_wp2_with fail
      go_ret2
      exact ⟨_, rfl, hv.out, .inl rfl, Keeps.refl _⟩

set_option maxRecDepth 100000 in
set_option maxHeartbeats 1000000 in
theorem rExit_any (v : Value) (l : List (Int × Bool)) (r : Int) (w : World) (hv : Deeds w v l) (hg : Good l) (hl : l.length ≤ 100000) :
    Calls Tryd.prog 50 #[v, .int .i64 r] w fun e w' => ∃ u, e = .returned (.tuple #[u, .bool ((runD l).exiB r), .int .i64 ((runD l).exiE r)]) ∧ DeedsN w v u (exiD l r) w' := by
  have hdep := rDepth_any v l r w hv hl
  rw [dTo_all hg] at hdep
  obtain ⟨p, cap, rfl, hc1, hc2, _⟩ := hv.get
  by_cases hr : 0 ≤ r ∧ r < 64
  · have h1 : ¬ r < 0 := by omega
    have h2 : ¬ 63 < r := by omega
    have hd8 := (runD_ok l).dep8 r.toNat
    have e1 : (runD l).depI r = ((runD l).dep r.toNat : Nat) := if_pos hr
    have e2 : (runD l).exiE r = if (runD l).dep r.toNat = 0 then 6 else 0 := if_pos hr
    have e3 : (runD l).exiB r = decide ((runD l).dep r.toNat = 1) := by unfold SSt.exiB; rw [decide_eq_true hr, Bool.true_and]
    rw [e1] at hdep
    unfold exiD
    rw [e2, e3]
    clear e1 e2 e3
    generalize (runD l).dep r.toNat = d at *
    replace hdep := Lib.hid hdep
    by_cases h8 : d = 0
    · rw [if_pos h8, decide_eq_false (show ¬ d = 1 by omega)]
      have h8' : ((d : Int) == 0) = true := by simp; omega
      rw [if_neg (by decide)]
      replace hv := Lib.hid hv
      clear h8 hr
      go_enter Tryd.func50, Tryd.ntmps50
      go_wp2_with fail
      refine hdep.out.mono ?_
      rintro e w' ⟨rfl, rfl⟩
      go_wp2_with fail
      go_ret3
      exact ⟨_, rfl, hv.out, .inl rfl, Keeps.refl _⟩
    · rw [if_neg h8]
      have h8' : ((d : Int) == 0) = false := by simp; omega
      rw [if_pos rfl]
      have hdd : ((d : Int) == 1) = decide (d = 1) := by
        rw [Bool.eq_iff_iff]; simp; omega
      have hB0 := Keeps.alloc w (.cells #[] 105)
      have hsrc := hv.keeps hB0
      generalize decide (d = 1) = bd at *
      replace hv := Lib.hid hv
      replace hB0 := Lib.hid hB0
      replace hsrc := Lib.hid hsrc
      replace hl := Lib.hid hl
      clear h8 hr
      go_enter Tryd.func50, Tryd.ntmps50
      go_wp2_with fail
      refine hdep.out.mono ?_
      rintro e w' ⟨rfl, rfl⟩
      go_wp2_with (at_builtin; refine appN rfl _ _ 49 105 _ 2 16 rfl Tryd.underlying49 infoDeed rfl (by decide) w.heap.size _ [] rfl (RowS.empty 2 _ _ w (Nat.le_refl _)) _ (l.map deedEl) rfl hsrc.out (deeds_one l) ?c1 ?c2 ?c3 ?_)
      case c1 => have := hl.out; simp; unfold maxLen; omega
      case c2 => have := hl.out; simp; omega
      case c3 => exact hB0.out.size
      intro v1 W3 hrow _ hbel
      replace hrow : RowS 2 w.heap.size 105 W3 v1 (l.map deedEl) := by simpa using hrow
      have hK3 : Keeps w W3 := Below.trans hB0.out hbel
      obtain ⟨q1, cap1, rfl⟩ := hrow.any
      have hsz3 := hK3.size
      have hsrc2 : SlcS 2 (W3.alloc (.cells (deedEl (r, true)).toArray 105)) (.slice (some ⟨W3.heap.size, 0, none⟩) 1 1) ([(r, true)].map deedEl) := slcs_one (Blk.new W3 _ _) rfl
      have hrow2 := hrow.alloc (.cells (deedEl (r, true)).toArray 105)
      have hB1 := Keeps.alloc W3 (.cells (deedEl (r, true)).toArray 105)
      replace hsrc2 := Lib.hid hsrc2
      replace hrow2 := Lib.hid hrow2
      replace hB1 := Lib.hid hB1
      replace hK3 := Lib.hid hK3
      clear hrow hbel
      go_wp2_with (at_builtin; refine appN rfl _ _ 49 105 _ 2 16 rfl Tryd.underlying49 infoDeed rfl (by decide) w.heap.size _ _ rfl hrow2.out _ _ rfl hsrc2.out (deeds_one [(r, true)]) ?c1 ?c2 ?c3 ?_)
      case c1 => have := hl.out; simp; unfold maxLen; omega
      case c2 => have := hl.out; simp; omega
      case c3 => (simp only [World.size_alloc]; omega)
      intro v2 W4 hrow _ hbel
      replace hrow : RowS 2 w.heap.size 105 W4 v2 ((l ++ [(r, true)]).map deedEl) := by simpa using hrow
      have hK4 : Keeps w W4 := Below.trans hK3.out (Below.trans (Below.mono hB1.out hsz3) hbel)
      replace hrow := Lib.hid hrow
      go_wp2_with fail
      go_ret3
      exact ⟨_, rfl, copied hK4 hrow.out⟩
  · have hcase : r < 0 ∨ (¬ r < 0 ∧ 63 < r) := by omega
    have e2 : (runD l).exiE r = 2 := if_neg hr
    have e3 : (runD l).exiB r = false := by unfold SSt.exiB; rw [decide_eq_false hr, Bool.false_and]
    unfold exiD
    rw [e2, e3, if_neg (by decide)]
    clear hdep e2 hr e3
    replace hv := Lib.hid hv
    rcases hcase with h1 | ⟨h1, h2⟩
    all_goals
      go_enter Tryd.func50, Tryd.ntmps50
      go_wp2_with fail
      go_ret3
      exact ⟨_, rfl, hv.out, .inl rfl, Keeps.refl _⟩
end Go.Proofs.YtefippjakkgjkaaDoor
