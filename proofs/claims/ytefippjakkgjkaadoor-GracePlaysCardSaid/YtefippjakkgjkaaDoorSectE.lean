/- New sections, one that enters, who is open; what holds between two calls. -/
import Derived.Test.YtefippjakkgjkaaDoorRef09
import Derived.Test.YtefippjakkgjkaaDoorSectD
import Derived.Test.YtefippjakkgjkaaDoorModn
namespace Go.Proofs.YtefippjakkgjkaaDoor
open Go.RowKit Go.Shelf

theorem mem_castL (l : List Nat) (k : Nat) : (k : Int) ∈ castL l ↔ k ∈ l := by
  simp only [castL, List.mem_map]
  constructor
  · rintro ⟨x, hx, h⟩; obtain rfl : x = k := by omega
    exact hx
  · intro h; exact ⟨k, h, rfl⟩
set_option maxRecDepth 100000 in
/-- New sections. -/
theorem sCells_init : sCells .init = List.replicate 128 (.int .i64 0) ++ [.int .u64 0, .int .i64 0] := by
  unfold sCells
  have : (SSt.init.rs.map rdEl).flatten = List.replicate 128 (.int .i64 0) := by
    show ((List.replicate 64 ((0 : Nat), (0 : Nat))).map rdEl).flatten = _
    rw [List.map_replicate]; rfl
  rw [this]; rfl
theorem zeroSect (w : World) : (zeroValue 83).run Tryd.prog w = .ok (.agg (sCells .init).toArray) w := by kernel_rfl
theorem sect_new (w : World) : SectAt (w.alloc (.cells (sCells .init).toArray 83)) w.heap.size .init := ⟨Blk.at rfl rfl, SSt.init_ok⟩

theorem openN_bit {S : SSt} (h : S.Ok) (s : Int) (j : Nat) (hj : j < 64) : (openN S s).testBit j = (decide (0 < S.dep j) && decide ((S.sin j : Int) ≤ s)) := by
  unfold openN
  rw [testBit_withN j hj, Nat.zero_testBit, Bool.false_or, Bool.eq_iff_iff, decide_eq_true_eq]
  have := mem_castL (openTo S s (listN S.m).length) j
  unfold castL at this
  rw [this]
  unfold openTo
  rw [List.take_length, List.mem_filter, mem_listN, Bool.and_eq_true]
  have hb := h.bits j hj
  simp only [hasN, Int.toNat_natCast] at hb
  rw [decide_eq_true (show (0 : Int) ≤ (j : Int) ∧ (j : Int) < 64 by omega), Bool.true_and] at hb
  rw [hb]
  exact and_congr_left fun _ => ⟨fun h1 => h1.2, fun h1 => ⟨hj, h1⟩⟩
theorem openN_lt (S : SSt) (s : Int) : openN S s < 18446744073709551616 := withN_lt _ _ (by decide)
theorem openN_full {S : SSt} (h : S.Ok) : openN S (S.st : Nat) = S.m := by
  refine eq_of_bits _ _ (openN_lt _ _) h.word fun j hj => ?_
  rw [openN_bit h _ j hj, decide_eq_true (show (S.sin j : Int) ≤ (S.st : Nat) by have := h.sle j; omega), Bool.and_true]
  have hb := h.bits j hj
  simp only [hasN, Int.toNat_natCast] at hb
  rw [decide_eq_true (show (0 : Int) ≤ (j : Int) ∧ (j : Int) < 64 by omega), Bool.true_and] at hb
  exact hb.symm
theorem openN_exi {S : SSt} (h : S.Ok) (s : Nat) (r : Int) : openN (S.exi r) s = if S.exiB r = true then withoutN (openN S s) [r] else openN S s := by
  by_cases hE : S.exiE r = 0
  · obtain ⟨k, e1, e2, hc⟩ := h.stepped (r, true) (by simpa [SSt.stepE] using hE)
    simp only at e1
    subst e1
    have hst : S.step ((k : Int), true) = S.exi k := rfl
    rw [hst] at hc
    rcases hc with ⟨_, hd, hs, hj⟩ | ⟨h', _⟩
    · have hB : S.exiB k = decide (S.dep k = 1) := by unfold SSt.exiB; rw [decide_eq_true (show (0 : Int) ≤ (k : Int) ∧ (k : Int) < 64 by omega), Bool.true_and, Int.toNat_natCast]
      rw [hB]
      by_cases h1 : S.dep k = 1
      · rw [if_pos (decide_eq_true h1)]
        refine eq_of_bits _ _ (openN_lt _ _) (withoutN_lt _ _ (openN_lt _ _)) fun j hjj => ?_
        rw [openN_bit (h.exi k) _ j hjj, testBit_withoutN j hjj, openN_bit h _ j hjj, (hj j).1, (hj j).2]
        by_cases e : k = j
        · subst e; rw [if_pos rfl, h1]; simp
        · rw [if_neg e, if_neg (fun x => e x.1)]
          have : ¬ (j : Int) ∈ [(k : Int)] := by simp; omega
          rw [decide_eq_false this]; simp
      · rw [if_neg (by simpa using h1)]
        refine eq_of_bits _ _ (openN_lt _ _) (openN_lt _ _) fun j hjj => ?_
        rw [openN_bit (h.exi k) _ j hjj, openN_bit h _ j hjj, (hj j).1, (hj j).2]
        by_cases e : k = j
        · subst e; rw [if_pos rfl, if_neg (fun x => h1 x.2)]; congr 1; rw [decide_eq_decide]; omega
        · rw [if_neg e, if_neg (fun x => e x.1)]
    · cases h'
  · rw [SSt.exi_bad hE, if_neg]
    intro hB
    unfold SSt.exiB at hB
    simp only [Bool.and_eq_true, decide_eq_true_eq] at hB
    exact hE (by unfold SSt.exiE; rw [if_pos hB.1, if_neg (by omega)])
theorem openN_ent {S : SSt} (h : S.Ok) (s : Nat) (hs : s ≤ S.st) (r : Int) : openN (S.ent r) s = openN S s := by
  by_cases hE : S.entE r = 0
  · obtain ⟨k, e1, e2, hc⟩ := h.stepped (r, false) (by simpa [SSt.stepE] using hE)
    simp only at e1
    subst e1
    have hst : S.step ((k : Int), false) = S.ent k := rfl
    rw [hst] at hc
    rcases hc with ⟨h', _⟩ | ⟨_, hd, _, hj⟩
    · cases h'
    · refine eq_of_bits _ _ (openN_lt _ _) (openN_lt _ _) fun j hjj => ?_
      rw [openN_bit (h.ent k) _ j hjj, openN_bit h _ j hjj, (hj j).1, (hj j).2]
      by_cases e : k = j
      · subst e
        by_cases h0 : S.dep k = 0
        · rw [if_pos rfl, if_pos ⟨rfl, h0⟩, h0, decide_eq_false (show ¬ ((S.st + 1 : Nat) : Int) ≤ (s : Int) by omega)]; simp
        · rw [if_pos rfl, if_neg (fun x => h0 x.2)]; congr 1; rw [decide_eq_decide]; omega
      · rw [if_neg e, if_neg (fun x => e x.1)]
  · rw [SSt.ent_bad hE]
theorem ents_one (S : SSt) (r : Int) : (S.ents [r]).2 = S.entE r ∧ (S.ents [r]).1 = S.ent r := by
  rw [SSt.ents_cons]
  split
  · rename_i h; exact ⟨h.symm, rfl⟩
  · rename_i h; exact ⟨rfl, (SSt.ent_bad h).symm⟩
/-- One enters, as the laws call it. -/
theorem enterOne {w : World} {p : Nat} {S : SSt} (h : SectAt w p S) (hst : S.st < 1000) (r : Int) :
    Calls Tryd.prog 49 #[.pointer (some ⟨p, 0, none⟩), .slice (some ⟨w.heap.size, 0, none⟩) 1 1] (w.alloc (.cells #[.int .i64 r] 3)) fun e w' => e = .returned (.int .i64 (S.entE r)) ∧ SectAt w' p (S.ent r) ∧ Chg (· = p) w w' := by
  have := enters_any (h.keeps (Keeps.alloc w (.cells #[.int .i64 r] 3))) (.slice (some ⟨w.heap.size, 0, none⟩) 1 1) [r] (ints_at w 3 [r] _ rfl (by simp [maxLen])) (fun b hb _ => by
    have := h.hdr.lt
    simp only [Value.ownBlock, Option.some.injEq] at hb; omega) (by simp; omega)
  rw [(ents_one S r).1, (ents_one S r).2] at this
  exact this.mono fun e w' ⟨h1, h2, h3⟩ => ⟨h1, h2, (Chg.of_keeps (Keeps.alloc _ _)).trans h3⟩

/-- What holds between two calls: sections at p and the document's deeds u. -/
structure InvT (w : World) (p : Nat) (S : SSt) (l : List (Int × Bool)) (u : Value) (W : World) : Prop where
  sect : SectAt W p S
  deeds : Deeds W u l
  good : Good l
  sep : ∀ c, u.ownBlock = some c → c ≠ p
  keeps : Keeps w W
abbrev InvS (w : World) (p : Nat) (l : List (Int × Bool)) (u : Value) (W : World) : Prop := InvT w p (runD l) l u W
theorem InvT.kept {w : World} {p : Nat} {S : SSt} {l : List (Int × Bool)} {u : Value} {W W' : World} (h : InvT w p S l u W) (hk : Keeps W W') : InvT w p S l u W' :=
  ⟨h.sect.keeps hk, h.deeds.keeps hk, h.good, h.sep, Keeps.trans h.keeps hk⟩
/-- The reference has a new list. -/
theorem InvT.told {w : World} {p : Nat} {S : SSt} {l l2 : List (Int × Bool)} {u u2 : Value} {W W2 : World} (h : InvT w p S l u W) (hN : DeedsN W u u2 l2 W2) (hg : Good l2) : InvT w p S l2 u2 W2 := by
  obtain ⟨h1, h2, h3⟩ := hN
  have hplt := h.sect.hdr.lt
  refine ⟨h.sect.keeps h3, h1, hg, ?_, Keeps.trans h.keeps h3⟩
  rcases h2 with rfl | h2
  · exact h.sep
  · intro c hc; have := h2 c hc; omega
/-- The program has new sections. -/
theorem InvT.done {w : World} {p : Nat} {S S2 : SSt} {l : List (Int × Bool)} {u : Value} {W W2 : World} (h : InvT w p S l u W) (hp : w.heap.size ≤ p) (hC : Chg (· = p) W W2) (hS : SectAt W2 p S2) : InvT w p S2 l u W2 :=
  ⟨hS, SlcS.chg h.deeds hC h.sep, h.good, h.sep, Chg.keeps hC h.keeps (fun k hk => by omega)⟩
theorem InvT.start {w W : World} {p : Nat} (hS : SectAt W p .init) (hK : Keeps w W) : InvT w p .init [] (.slice none 0 0) W :=
  ⟨hS, SlcS.nil 2 W, Good.nil, fun c hc => (by simp [Value.ownBlock] at hc), hK⟩

end Go.Proofs.YtefippjakkgjkaaDoor
