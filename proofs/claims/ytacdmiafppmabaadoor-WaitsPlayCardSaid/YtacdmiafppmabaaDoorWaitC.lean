/- Who waits for such a one; Drop, Wake, Wait. -/
import Derived.Test.YtacdmiafppmabaaDoorWaitB
namespace Go.Proofs.YtacdmiafppmabaaDoor
open Go.RowKit

theorem whom_some {f : WS} {k b : Nat} (h : f k = some b) : whomV f (k : Int) = b ∧ whomB f (k : Int) = true := by
  unfold whomV whomB; rw [whom_nat, h]; exact ⟨rfl, rfl⟩
theorem whom_none {f : WS} {k : Nat} (h : f k = none) : whomV f (k : Int) = 0 ∧ whomB f (k : Int) = false := by
  unfold whomV whomB; rw [whom_nat, h]; exact ⟨rfl, rfl⟩
/-- A row of one number. -/
theorem ints_one (W : World) (x : Int) : Ints (W.alloc (.cells #[.int .i64 x] 3)) (.slice (some ⟨W.heap.size, 0, none⟩) 1 1) [x] := by
  have := (Blk.new W 3 [.int .i64 x]).slc 1 1 (by simp) (by omega) (by unfold maxLen; omega)
  exact this
set_option maxRecDepth 100000 in
set_option maxHeartbeats 1000000 in
theorem such_any {q : Nat → Bool} {p n : Nat} {bo : Option Nat} {f : WS} {w : World} (hA : WaitsAt w p bo n f) (g : Nat) (lb : Array Value)
    (eg : ∀ args W, (callFunc g args).run Tryd.prog W = .ok (.enter g args) W)
    (hlike : ∀ (b : Nat) (W : World), b < 32 → Keeps w W → Calls Tryd.prog g (#[.int .i64 (b : Int)] ++ lb) W fun e w' => e = .returned (.bool (q b)) ∧ W = w') :
    Calls Tryd.prog 22 #[.pointer (some ⟨p, 0, none⟩), .func (.func g) #[] lb] w fun e w' => e = .returned (.int .u64 (suchW f q 32 : Nat)) ∧ Keeps w w' := by
  replace hA := Lib.hid hA
  replace hlike := Lib.hid hlike
  go_enter Tryd.func22, Tryd.ntmps22
  go_wp2_with fail
  go_loopw [5, 9] (fun mv kv wr => ∃ k : Nat, k ≤ 32 ∧ mv = .int .u64 (suchW f q k : Nat) ∧ kv = .int .i64 (k : Int) ∧ Keeps w wr) (fun _ kv _ => 32 - (intOf kv).toNat)
  case atStart => exact ⟨0, by omega, rfl, rfl, Keeps.refl _⟩
  case round =>
    obtain ⟨k, hk, rfl, rfl, hK⟩ := hrel
    by_cases hlt : k < 32
    · have hltI : (k : Int) < 32 := by omega
      have hfo := for_any (hA.out.keeps hK) (k : Int) ⟨by omega, by omega⟩
      cases hfk : f k with
      | none =>
        rw [(whom_none hfk).1, (whom_none hfk).2] at hfo
        have hnext := suchW_same f q k (by rw [hfk]; rfl)
        replace hnext := Lib.hid hnext
        replace hfo := Lib.hid hfo
        clear hfk
        generalize suchW f q k = m at *
        go_wp2_with fail
        refine hfo.out.mono ?_
        rintro e w' ⟨rfl, rfl⟩
        go_wp2_with fail
        go_roundw
        case rel => exact ⟨k + 1, by omega, by rw [hnext.out], by go_num, hK⟩
        case measure => (simp [intOf]; try omega)
      | some b =>
        rw [(whom_some hfk).1, (whom_some hfk).2] at hfo
        have hb32 := (hA.out.ok.dom k b hfk).2
        have hli := hlike.out b wr hb32 hK
        cases hqb : q b with
        | false =>
          rw [hqb] at hli
          have hnext := suchW_same f q k (by rw [hfk]; exact hqb)
          replace hnext := Lib.hid hnext
          replace hfo := Lib.hid hfo
          replace hli := Lib.hid hli
          replace hqb := Lib.hid hqb
          clear hfk
          generalize suchW f q k = m at *
          go_wp2_with fail
          refine hfo.out.mono ?_
          rintro e w' ⟨rfl, rfl⟩
          go_wp2_with fail
          refine hli.out.mono ?_
          rintro e w' ⟨rfl, rfl⟩
          go_wp2_with fail
          go_roundw
          case rel => exact ⟨k + 1, by omega, by rw [hnext.out], by go_num, hK⟩
          case measure => (simp [intOf]; try omega)
        | true =>
          rw [hqb] at hli
          have hnext := suchW_succ f q k (by rw [hfk]; exact hqb)
          have hwith := with_any (suchW f q k) _ _ _ (suchW_lt f q k) (ints_one wr (k : Int))
          rw [hnext] at hwith
          replace hfo := Lib.hid hfo
          replace hli := Lib.hid hli
          replace hqb := Lib.hid hqb
          replace hwith := Lib.hid hwith
          clear hfk hnext
          generalize suchW f q k = m at *
          go_wp2_with fail
          refine hfo.out.mono ?_
          rintro e w' ⟨rfl, rfl⟩
          go_wp2_with fail
          refine hli.out.mono ?_
          rintro e w' ⟨rfl, rfl⟩
          go_wp2_with fail
          refine hwith.out.mono ?_
          rintro e w' ⟨rfl, rfl⟩
          go_wp2_with fail
          go_roundw
          case rel => exact ⟨k + 1, by omega, rfl, by go_num, Keeps.trans hK (Keeps.alloc _ _)⟩
          case measure => (simp [intOf]; try omega)
    · obtain rfl : k = 32 := by omega
      go_wp2_with fail
      go_ret
      exact ⟨rfl, hK⟩
/-! ### By, Waiting -/
set_option maxHeartbeats 400000 in
theorem byFn_any (c x : Int) (B : Nat) (w : World) (hB : w.cell? ⟨B, 0, none⟩ = some (.int .i64 x)) : Calls Tryd.prog 29 #[.int .i64 c, .pointer (some ⟨B, 0, none⟩)] w fun e w' => e = .returned (.bool (c == x)) ∧ w = w' := by
  go_enter Tryd.func29, Tryd.ntmps29
  go_wp2
  go_ret
  exact ⟨rfl, rfl⟩
set_option maxHeartbeats 400000 in
theorem waitingFn_any (c : Int) (w : World) : Calls Tryd.prog 30 #[.int .i64 c] w fun e w' => e = .returned (.bool true) ∧ w = w' := by
  go_enter Tryd.func30, Tryd.ntmps30
  go_wp2
  go_ret
  exact ⟨rfl, rfl⟩
set_option maxHeartbeats 400000 in
theorem wakeFn_any (c : Int) (zs : List Int) (v : Value) (B : Nat) (w : World) (hB : w.cell? ⟨B, 0, none⟩ = some v) (hv : Ints w v zs) : Calls Tryd.prog 23 #[.int .i64 c, .pointer (some ⟨B, 0, none⟩)] w fun e w' => e = .returned (.bool (zs.contains c)) ∧ w = w' := by
  have hco := contains_any zs v c w hv
  obtain ⟨q, cap, rfl, _⟩ := hv.open
  obtain ⟨C, hC⟩ : ∃ C, C = zs.contains c := ⟨_, rfl⟩
  rw [← hC] at hco ⊢
  replace hco := Lib.hid hco
  clear hv hC
  go_enter Tryd.func23, Tryd.ntmps23
  go_wp2_with fail
  refine hco.out.mono ?_
  rintro e w' ⟨rfl, rfl⟩
  go_wp2_with fail
  go_ret
  exact ⟨rfl, rfl⟩
section
variable {p n : Nat} {bo : Option Nat} {f : WS} {w : World}
set_option maxHeartbeats 400000 in
theorem by_any (hA : WaitsAt w p bo n f) (x : Int) : Calls Tryd.prog 18 #[.pointer (some ⟨p, 0, none⟩), .int .i64 x] w fun e w' => e = .returned (.int .u64 (suchW f (fun c => (c : Int) == x) 32 : Nat)) ∧ Keeps w w' := by
  have hK := Keeps.alloc w (.cells #[.int .i64 x] 3)
  have hcell : (w.alloc (.cells #[.int .i64 x] 3)).cell? ⟨w.heap.size, 0, none⟩ = some (.int .i64 x) := (Boxed.new w 3 (.int .i64 x)).cell
  have hs := such_any (q := fun c => (c : Int) == x) (hA.keeps hK) 29 #[.pointer (some ⟨w.heap.size, 0, none⟩)] (enters_of Tryd.func29 (by kernel_rfl) rfl)
    (fun b W hb hk => byFn_any (b : Int) x w.heap.size W ((hk.cell (p := ⟨w.heap.size, 0, none⟩) (cell_lt hcell)).trans hcell))
  replace hs := Lib.hid hs
  replace hK := Lib.hid hK
  clear hA hcell
  go_enter Tryd.func18, Tryd.ntmps18
  go_wp2_with fail
  refine hs.out.mono ?_
  rintro e w' ⟨rfl, hK2⟩
  replace hK2 := Lib.hid hK2
  go_wp2_with fail
  go_ret
  exact ⟨rfl, Keeps.trans hK.out hK2.out⟩
set_option maxHeartbeats 400000 in
theorem waiting_any (hA : WaitsAt w p bo n f) : Calls Tryd.prog 20 #[.pointer (some ⟨p, 0, none⟩)] w fun e w' => e = .returned (.int .u64 (suchW f (fun _ => true) 32 : Nat)) ∧ Keeps w w' := by
  have hs := such_any (q := fun _ => true) hA 30 #[] (enters_of Tryd.func30 (by kernel_rfl) rfl)
    (fun b W hb hk => waitingFn_any (b : Int) W)
  replace hs := Lib.hid hs
  clear hA
  go_enter Tryd.func20, Tryd.ntmps20
  go_wp2_with fail
  refine hs.out.mono ?_
  rintro e w' ⟨rfl, hK2⟩
  replace hK2 := Lib.hid hK2
  go_wp2_with fail
  go_ret
  exact ⟨rfl, hK2.out⟩
/-! ### Drop -/
set_option maxHeartbeats 400000 in
theorem drop_no (hA : WaitsAt w p bo n f) (a : Int) (ha : -9223372036854775808 ≤ a ∧ a ≤ 9223372036854775807) (hf : whomB f a = false) : Calls Tryd.prog 16 #[.pointer (some ⟨p, 0, none⟩), .int .i64 a] w fun e w' => e = .returned (.bool false) ∧ w = w' := by
  have hfo := for_any hA a ha
  rw [hf] at hfo
  replace hfo := Lib.hid hfo
  clear hf hA
  go_enter Tryd.func16, Tryd.ntmps16
  go_wp2_with fail
  refine hfo.out.mono ?_
  rintro e w' ⟨rfl, rfl⟩
  go_wp2_with fail
  go_ret
  exact ⟨rfl, rfl⟩
theorem WaitsAt.some_map (hA : WaitsAt w p bo n f) {a b : Nat} (hf : f a = some b) : ∃ bm, bo = some bm := by
  cases bo with
  | none => have h : f = wnone := hA.map; rw [h] at hf; cases hf
  | some bm => exact ⟨bm, rfl⟩
set_option maxHeartbeats 400000 in
theorem drop_yes (hA : WaitsAt w p bo n f) (a b : Nat) (hf : f a = some b) : Calls Tryd.prog 16 #[.pointer (some ⟨p, 0, none⟩), .int .i64 (a : Int)] w fun e w' => e = .returned (.bool true) ∧ WaitsAt w' p bo n (updW f a none) ∧ Chg (WF p bo) w w' := by
  obtain ⟨bm, rfl⟩ := hA.some_map hf
  have ha := (hA.ok.dom a b hf).1
  have hfo := for_any hA (a : Int) ⟨by omega, by omega⟩
  rw [(whom_some hf).1, (whom_some hf).2] at hfo
  have c0 := hA.cell
  obtain ⟨w2, hrun, hm2, hc2⟩ := hA.map.2.del ha 0
  have hne := hA.map.1
  have hA2 : WaitsAt w2 p (some bm) n (updW f a none) := ⟨hA.hdr.chg hc2 (fun e => hne e.symm), ⟨hne, hm2⟩, hA.ok.drop a⟩
  have hC : Chg (WF p (some bm)) w w2 := hc2.mono fun k _ hk => .inr (by rw [hk])
  replace hfo := Lib.hid hfo
  replace hA2 := Lib.hid hA2
  replace hC := Lib.hid hC
  clear hA hm2 hc2 hne
  go_enter Tryd.func16, Tryd.ntmps16
  go_wp2_with fail
  refine hfo.out.mono ?_
  rintro e w' ⟨rfl, rfl⟩
  go_wp2_with fail
  go_ret
  exact ⟨rfl, hA2.out, hC.out⟩
theorem natInts_ints (l : List Nat) : natInts l = (castW l).map (Value.int .i64) := by simp [natInts, castW]
theorem castW_len (l : List Nat) : (castW l).length = l.length := by simp [castW]
theorem WF.apart (hA : WaitsAt w p bo n f) {v : Value} (hv : ∀ b, v.ownBlock = some b → w.heap.size ≤ b) : ∀ b, v.ownBlock = some b → ¬ WF p bo b := fun b hb hk => by have := hA.lt b hk; have := hv b hb; omega
theorem row_ownB {W : World} {base : Nat} {e : TypeId} {v : Value} {m : Nat} {xs : List Value} (h : W.ownsRow base e 1 v m xs) : ∀ b, v.ownBlock = some b → base ≤ b := by
  intro b hb
  rcases h.2 with ⟨h, _⟩ | ⟨g, cap, cur, h, hg, _⟩
  · subst h; simp [Value.ownBlock] at hb
  · subst h; simp [Value.ownBlock] at hb; omega
/-! ### Wake -/
set_option maxRecDepth 100000 in
set_option maxHeartbeats 1000000 in
theorem wake_any (hA : WaitsAt w p bo n f) (v : Value) (zs : List Int) (hv : Ints w v zs) (hT : TabAt w) (hTF : ¬ WF p bo 0) :
    Calls Tryd.prog 7 #[.pointer (some ⟨p, 0, none⟩), v] w fun e w' => ∃ u, e = .returned u ∧ Ints w' u (castW (suchL f (fun c => zs.contains (c : Int)) 32)) ∧ (∀ b, u.ownBlock = some b → w.heap.size ≤ b) ∧ WaitsAt w' p bo n (dropAll f (suchL f (fun c => zs.contains (c : Int)) 32)) ∧ Chg (WF p bo) w w' := by
  have hK := Keeps.alloc w (.cells #[v] 29)
  have hcell : (w.alloc (.cells #[v] 29)).cell? ⟨w.heap.size, 0, none⟩ = some v := (Boxed.new w 29 v).cell
  have hs := such_any (q := fun c => zs.contains (c : Int)) (hA.keeps hK) 23 #[.pointer (some ⟨w.heap.size, 0, none⟩)] (enters_of Tryd.func23 (by kernel_rfl) rfl)
    (fun b W hb hk => wakeFn_any (b : Int) zs v w.heap.size W ((hk.cell (p := ⟨w.heap.size, 0, none⟩) (cell_lt hcell)).trans hcell) (Slc.below (Slc.below hv hK) hk))
  have hli := fun (W : World) (hk : Keeps w W) => list_any (suchW f (fun c => zs.contains (c : Int)) 32) W (suchW_lt _ _ _) (hT.keeps hk)
  have hll : lenN (suchW f (fun c => zs.contains (c : Int)) 32) = (suchL f (fun c => zs.contains (c : Int)) 32).length := by unfold lenN; rw [suchW_list]
  rw [suchW_list, hll] at hli
  have hmem := fun a => @suchL_mem f (fun c => zs.contains (c : Int)) 32 a
  have hnd : (suchL f (fun c => zs.contains (c : Int)) 32).Nodup := (List.nodup_range).filter _
  have hle := suchL_le f (fun c => zs.contains (c : Int)) 32
  obtain ⟨q, cap, rfl, _, _, _⟩ := hv.open
  generalize suchW f (fun c => zs.contains (c : Int)) 32 = m at *
  generalize suchL f (fun c => zs.contains (c : Int)) 32 = L at *
  have hLI : (0 : Int) ≤ (L.length : Int) := by omega
  replace hs := Lib.hid hs
  replace hK := Lib.hid hK
  replace hli := Lib.hid hli
  replace hll := Lib.hid hll
  replace hmem := Lib.hid hmem
  replace hnd := Lib.hid hnd
  replace hA := Lib.hid hA
  replace hv := Lib.hid hv
  replace hTF := Lib.hid hTF
  replace hT := Lib.hid hT
  clear hcell
  go_enter Tryd.func7, Tryd.ntmps7
  go_wp2_with fail
  refine hs.out.mono ?_
  rintro e w1 ⟨rfl, hK1⟩
  have hKw := Keeps.trans hK.out hK1
  have hli2 := hli.out w1 hKw
  replace hKw := Lib.hid hKw
  replace hli2 := Lib.hid hli2
  clear hs hli hK1 hK
  go_wp2_with fail
  refine hli2.out.mono ?_
  rintro e w2 ⟨u, rfl, hrow, hK2⟩
  have hsl := slc_of_row hrow
  have hlo := fun b hb => (row_ownB hrow b hb)
  obtain ⟨uq, ucap, hu, _⟩ := hsl
  rw [natInts_len] at hu
  subst hu
  have hK3 := Keeps.trans hKw.out hK2
  have hA2 := hA.out.keeps hK3
  have hsz := hKw.out.size
  have hI2 : Ints w2 (.slice uq L.length ucap) (castW L) := by
    have := slc_of_row hrow
    rw [natInts_ints] at this
    exact this
  have hu3 : ∀ b, (Value.slice uq L.length ucap).ownBlock = some b → w.heap.size ≤ b := fun b hb => by have := hlo b hb; omega
  replace hA2 := Lib.hid hA2
  replace hI2 := Lib.hid hI2
  replace hK3 := Lib.hid hK3
  replace hu3 := Lib.hid hu3
  clear hrow hlo hK2 hli2 hKw
  go_wp2_with fail
  go_loopw [14] (fun iv wr => ∃ j : Nat, j ≤ L.length ∧ iv = .int .i64 (j : Int) ∧ WaitsAt wr p bo n (dropAll f (L.take j)) ∧ Ints wr (.slice uq L.length ucap) (castW L) ∧ Chg (WF p bo) w2 wr) (fun iv _ => L.length - (intOf iv).toNat)
  case atStart => exact ⟨0, Nat.zero_le _, rfl, by rw [List.take_zero, dropAll_nil]; exact hA2.out, hI2.out, Chg.of_keeps (Keeps.refl _)⟩
  case round =>
    obtain ⟨j, hj, rfl, hAr, hIr, hCr⟩ := hrel
    by_cases hlt : j < L.length
    · have hltI := Int.ofNat_lt.2 hlt
      have hj0 : (0 : Int) ≤ (j : Int) := by omega
      obtain ⟨uq', uc', hv', _, _, hcell⟩ := hIr.open
      obtain ⟨ub, uoff, hq', c0⟩ := hcell j (by rw [castW_len]; exact hlt)
      simp only [Value.slice.injEq] at hv'
      obtain rfl : uq = some ⟨ub, uoff, none⟩ := hv'.1.trans hq'
      have hgj : (castW L)[j]'(by rw [castW_len]; exact hlt) = ((L[j] : Nat) : Int) := by simp [castW]
      rw [hgj] at c0
      have hm := (hmem.out L[j]).1 (List.getElem_mem hlt)
      obtain ⟨b, hfb⟩ : ∃ b, f L[j] = some b := by
        cases h : f L[j] with
        | none => rw [h] at hm; cases hm.2
        | some b => exact ⟨b, rfl⟩
      have hnotin : L[j] ∉ L.take j := by
        intro hin
        have h1 := hnd.out
        rw [← List.take_append_drop j L, List.nodup_append] at h1
        have h2 : L[j] ∈ L.drop j := by rw [List.drop_eq_getElem_cons hlt]; exact List.mem_cons_self
        exact h1.2.2 _ hin _ h2 rfl
      have hd := drop_yes hAr L[j] b (by unfold dropAll; rw [if_neg (by simpa using hnotin)]; exact hfb)
      rw [dropAll_snoc, ← List.take_succ_eq_append_getElem hlt] at hd
      have hst := hu3.out
      replace hd := Lib.hid hd
      replace hIr := Lib.hid hIr
      replace hCr := Lib.hid hCr
      replace hAr := Lib.hid hAr
      clear hcell hv' hq' hgj hm hfb hnotin hst
      generalize L[j] = a at *
      go_wp2_with fail
      refine hd.out.mono ?_
      rintro e w3 ⟨rfl, hA3, hC3⟩
      have hI3 : Ints w3 (.slice (some ⟨ub, uoff, none⟩) L.length ucap) (castW L) := Slc.chg hIr.out hC3 (fun b hb hF => by
        have h1 := hu3.out b hb
        have h2 := hA.out.lt b hF
        omega)
      have hC4 := hCr.out.trans hC3
      replace hA3 := Lib.hid hA3
      replace hI3 := Lib.hid hI3
      replace hC4 := Lib.hid hC4
      clear hC3 hd
      go_wp2_with fail
      go_roundw
      case rel => exact ⟨j + 1, by omega, by go_num, hA3.out, hI3.out, hC4.out⟩
      case measure => (simp [intOf]; try omega)
    · obtain rfl : j = L.length := by omega
      rw [List.take_of_length_le (Nat.le_refl _)] at hAr
      have hfin : Chg (WF p bo) w wr := (Chg.of_keeps hK3.out).trans hCr
      replace hAr := Lib.hid hAr
      replace hIr := Lib.hid hIr
      replace hfin := Lib.hid hfin
      clear hCr
      go_wp2_with fail
      go_ret
      exact ⟨_, rfl, hIr.out, hu3.out, hAr.out, hfin.out⟩
end
end Go.Proofs.YtacdmiafppmabaaDoor
