/- The laws of layer 9: known, SectNil. -/
import Derived.Test.YtjinekckpgincaaDoorRef09b
namespace Go.Proofs.YtjinekckpgincaaDoor
open Go.RowKit Go.Shelf
attribute [local go_sem] Oper.semAt_some

/-- such's function of nil sections yields nothing. -/
theorem suchSNil_stops (B1 B2 n₀ O : Nat) (w : World) (hB1 : Boxed w B1 55 (.pointer none)) (hT : TabAt w) :
    SeqStopsK Fence.wide 8 Tryd.prog 31 #[.pointer (some ⟨B1, 0, none⟩), .pointer (some ⟨B2, 0, none⟩)] (fun x : Nat => #[Value.int .i64 (x : Int)]) (KeepC n₀ O) (fun ys => ys = []) (fun pre => pre <+: []) ([] : List Nat).length w := fun l J Jx W hW hJ _ _ h0 => by
  have hc := Boxed.cell ((hW.block B1 hB1.lt).trans hB1)
  have hT' := hT.keeps hW
  refine callsIn_of_wp Tryd.func31 rfl trivial ?_ rfl
  simp only [Tryd.ntmps31, List.size_toArray, List.length_cons, List.length_nil, Nat.reduceAdd, Nat.reduceSub, Array.replicate_succ, Array.replicate_zero, List.push_toArray, List.append_toArray, List.nil_append, List.cons_append]
  gi_wp2
  refine ⟨trivial, (callsIn_wide.2 (in_nil W)).mono ?_⟩
  rintro e w' ⟨rfl, rfl⟩
  gi_wp2
  refine ⟨trivial, (callsIn_wide.2 (list_any 0 W (by decide) hT')).mono ?_⟩
  rintro e W1 ⟨v, rfl, hrow, hK⟩
  have hJ1 := hJ [] W W1 none h0 (keeps_grown hK) (fun r e => by cases e)
  rw [show listN 0 = [] from listN_zero, show lenN 0 = 0 by decide] at hrow
  have hSl := slc_of_row hrow
  obtain ⟨q, cap, rfl, hl, hc2, _, _⟩ := id hSl
  rw [natInts_len] at *
  clear hrow hSl
  gi_wp2
  gi_loopw [10] (fun i wr => i = .int .i64 0 ∧ J [] wr) (fun i _ => (intOf i).toNat)
  case atStart => exact ⟨rfl, hJ1⟩
  case round =>
    obtain ⟨rfl, hJs⟩ := hrel
    gi_wp2
    go_end0
    exact ⟨⟨_, rfl⟩, .inl ⟨_, rfl, hJs⟩⟩

set_option maxRecDepth 100000 in
set_option maxHeartbeats 2000000 in
theorem open_nil (stamp : Int) (w : World) (hT : TabAt w) :
    Calls Tryd.prog 20 #[.pointer none, .int .i64 stamp] w fun e w' => e = .returned (.int .u64 0) ∧ Keeps w w' := by
  refine (callsIn_wide (n := 9)).1 ?_
  refine callsIn_of_wp_marks Tryd.func20 rfl trivial ?_ rfl
  simp only [Tryd.ntmps20, List.size_toArray, List.length_cons, List.length_nil, Nat.reduceAdd, Nat.reduceSub, Array.replicate_succ, Array.replicate_zero, List.push_toArray, List.append_toArray, List.nil_append, List.cons_append]
  gi_wp2_with (refine ⟨trivial, ?_⟩; gi_at_call 27; refine (callsIn_wide.2 (suchS_any _ _ _ _ _ _ _ rfl rfl)).mono ?_; rintro e w' ⟨rfl, rfl⟩)
  have bO := Boxed.new (w.alloc (.cells #[.int .i64 stamp] 3)) 27 (.int .u64 0)
  have bG := Boxed.new ((w.alloc (.cells #[.int .i64 stamp] 3)).alloc (.cells #[.int .u64 0] 27)) 55 (.pointer none)
  simp only [World.size_alloc] at bO bG
  have hB0 : Keeps w ((((w.alloc (.cells #[.int .i64 stamp] 3)).alloc (.cells #[.int .u64 0] 27)).alloc (.cells #[.pointer none] 55)).alloc (.cells #[openFn w.heap.size] 68)) :=
    (((Keeps.alloc _ _).trans (Keeps.alloc _ _)).trans (Keeps.alloc _ _)).trans (Keeps.alloc _ _)
  refine iter_ruleC w (w.heap.size + 1) (gf := 31) (lb := #[.pointer (some ⟨w.heap.size + 1 + 1, 0, none⟩), .pointer (some ⟨w.heap.size + 1 + 1 + 1, 0, none⟩)]) (xs := ([] : List Nat)) rfl (enters_of Tryd.func31 (by kernel_rfl) rfl)
    (suchSNil_stops (w.heap.size + 1 + 1) (w.heap.size + 1 + 1 + 1) _ _ _ (bG.alloc _) (hT.keeps hB0)) (Below.refl _ _) hB0 (fun _ => rfl)
    (fun pre W => Boxed W (w.heap.size + 1) 27 (.int .u64 0))
    (fun c pre W => False)
    (fun pre => Stays.boxed _ _ _ _)
    (fun c pre => Stays.pure _ _)
    ((bO.alloc _).alloc _)
    ?a1 ?assign ?body ?done ?stop
  case assign =>
    intro l x W K hK
    gi_wp2
    exact hK
  case body =>
    rintro l pre x W hb hlt hv
    exact absurd hlt (Nat.not_lt_zero _)
  case done =>
    rintro D W hD hb hv hK
    have hc := hv.cell
    gi_wp2
    refine ret_marks hK rfl (v := .int .u64 0) ?_ ⟨rfl, ?_⟩
    · exact results_tmp (fn := Tryd.f20) rfl _ _ _
    · exact Below.putObj hb _ (by simp at hD; omega) hK
  case stop =>
    rintro D c pre W hD hpre hb h hK
    exact h.elim

set_option maxRecDepth 100000 in
/-- New sections. -/
theorem sCells_init : sCells .init = List.replicate 128 (.int .i64 0) ++ [.int .u64 0, .int .i64 0] := by
  unfold sCells
  have : (SSt.init.rs.map rdEl).flatten = List.replicate 128 (.int .i64 0) := by
    show ((List.replicate 64 ((0 : Nat), (0 : Nat))).map rdEl).flatten = _
    rw [List.map_replicate]; rfl
  rw [this]; rfl
theorem zeroSect (w : World) : (zeroValue 29).run Tryd.prog w = .ok (.agg (sCells .init).toArray) w := by kernel_rfl
theorem sect_new (w : World) : SectAt (w.alloc (.cells (sCells .init).toArray 29)) w.heap.size .init := ⟨Blk.at rfl rfl, SSt.init_ok⟩

set_option maxRecDepth 100000 in
set_option maxHeartbeats 4000000 in
theorem known09_any (w : World) (hT : TabAt w) :
    Calls Tryd.prog 9 #[] w fun e w' => e = .returned (.bool true) ∧ Keeps w w' := by
  have hz := zeroSect
  go_enter Tryd.func9, Tryd.ntmps9
  go_upto_region 2 with (fail)
  refine wp_gen (fun W => SectAt W w.heap.size .init ∧ Keeps w W ∧ w.heap.size < W.heap.size) ⟨sect_new w, Keeps.alloc _ _, by simp⟩ ?_
  clear hz
  rintro W1 ⟨hS, hK, hlt⟩
  obtain ⟨p, hpe⟩ : ∃ p, p = w.heap.size := ⟨_, rfl⟩
  rw [← hpe] at hS hlt ⊢
  -- entering
  have hen := fun (W : World) (S : SSt) (zs : List Int) (hz : zs.length ≤ 2) (hs : SectAt W p S) (hst : S.st < 1000) => enters_any (hs.keeps (Keeps.alloc W (.cells (zs.map (Value.int .i64)).toArray 3))) (.slice (some ⟨W.heap.size, 0, none⟩) zs.length zs.length) zs (ints_new W 3 zs (by unfold maxLen; omega)) (fun b hb _ => by
    have := hs.hdr.lt
    simp only [Value.ownBlock, Option.some.injEq] at hb; omega) (by omega)
  have hkC : ∀ (W W' : World) (o : Obj), Keeps w W → Chg (· = p) (W.alloc o) W' → Keeps w W' := fun W W' o hk hc => Chg.keeps hc (Keeps.trans hk (Keeps.alloc W o)) (fun k hk => by omega)
  have hkD : ∀ (W W' : World), Keeps w W → Chg (· = p) W W' → Keeps w W' := fun W W' hk hc => Chg.keeps hc hk (fun k hk => by omega)
  have hof := fun (W : World) (zs : List Int) (hz : zs.length ≤ 2) => of_any _ _ _ (ints_new W 3 zs (by unfold maxLen; omega))
  have h44 := hen W1 .init [4, 4] (by decide) hS (by decide)
  replace hen := Lib.hid hen
  replace hkC := Lib.hid hkC
  replace hkD := Lib.hid hkD
  replace hof := Lib.hid hof
  replace h44 := Lib.hid h44
  replace hK := Lib.hid hK
  replace hpe := Lib.hid hpe
  clear hS
  go_wp2_with fail
  refine h44.out.mono ?_
  rintro e w2 ⟨rfl, hS, hC⟩
  replace hK := Lib.hid (hkC.out _ _ _ hK.out hC)
  rw [show (SSt.init.ents [4, 4]).2 = 0 by decide]
  clear hC h44
  have hT2 := Lib.hid (hT.keeps hK.out)
  have h9 := hen.out w2 _ [9] (by decide) hS (by decide)
  replace h9 := Lib.hid h9
  clear hS
  go_wp2_with fail
  refine h9.out.mono ?_
  rintro e w3 ⟨rfl, hS, hC⟩
  replace hK := Lib.hid (hkC.out _ _ _ hK.out hC)
  rw [show ((SSt.init.ents [4, 4]).1.ents [9]).2 = 0 by decide]
  clear hC h9 hT2
  have hd := depth_any hS 4
  rw [show ((SSt.init.ents [4, 4]).1.ents [9]).1.depI 4 = 2 by decide] at hd
  have hn := fun W (h : Keeps w3 W) => since_any (hS.keeps h) 9
  rw [show ((SSt.init.ents [4, 4]).1.ents [9]).1.sinI 9 = 2 by decide] at hn
  have ho := fun W (h : Keeps w3 W) => open_any (hS.keeps h) (hT.keeps (Keeps.trans hK.out h)) 1
  rw [show openN ((SSt.init.ents [4, 4]).1.ents [9]).1 1 = 16 by decide] at ho
  have hx := fun W (h : Keeps w3 W) => exit_any (hS.keeps h) 4
  rw [show ((SSt.init.ents [4, 4]).1.ents [9]).1.exiB 4 = false by decide, show ((SSt.init.ents [4, 4]).1.ents [9]).1.exiE 4 = 0 by decide] at hx
  replace hd := Lib.hid hd
  replace hn := Lib.hid hn
  replace ho := Lib.hid ho
  replace hx := Lib.hid hx
  clear hS
  go_wp2_with fail
  refine hd.out.mono ?_
  rintro e w4 ⟨rfl, hK4⟩
  replace hK4 := Lib.hid hK4
  go_wp2_with fail
  refine (hn.out w4 hK4.out).mono ?_
  rintro e w5 ⟨rfl, hK5⟩
  replace hK5 := Lib.hid (Keeps.trans hK4.out hK5)
  go_wp2_with fail
  refine (ho.out w5 hK5.out).mono ?_
  rintro e w6 ⟨rfl, hK6⟩
  replace hK6 := Lib.hid (Keeps.trans hK5.out hK6)
  have ho4 := hof.out w6 [4] (by decide)
  rw [show withN 0 [4] = 16 by decide] at ho4
  replace ho4 := Lib.hid ho4
  go_wp2_with fail
  refine ho4.out.mono ?_
  rintro e w7 ⟨rfl, rfl⟩
  have hK7 := Keeps.trans hK6.out (Keeps.alloc w6 (.cells ([(4 : Int)].map (Value.int .i64)).toArray 3))
  have hx1 := hx.out _ hK7
  replace hK7 := Lib.hid hK7
  replace hx1 := Lib.hid hx1
  clear hd hn ho hx ho4
  go_wp2_with fail
  refine hx1.out.mono ?_
  rintro e w8 ⟨rfl, hS, hC⟩
  replace hK := Lib.hid (hkD.out _ _ (Keeps.trans hK.out hK7.out) hC)
  clear hC hx1 hK7 hK6 hK5 hK4
  have hx2 := exit_any hS 4
  rw [show (((SSt.init.ents [4, 4]).1.ents [9]).1.exi 4).exiB 4 = true by decide, show (((SSt.init.ents [4, 4]).1.ents [9]).1.exi 4).exiE 4 = 0 by decide] at hx2
  replace hx2 := Lib.hid hx2
  clear hS
  go_wp2_with fail
  refine hx2.out.mono ?_
  rintro e w9 ⟨rfl, hS, hC⟩
  replace hK := Lib.hid (hkD.out _ _ hK.out hC)
  have h9 := hen.out w9 _ [4] (by decide) hS (by decide)
  replace h9 := Lib.hid h9
  clear hS hC hx2
  go_wp2_with fail
  refine h9.out.mono ?_
  rintro e w10 ⟨rfl, hS, hC⟩
  replace hK := Lib.hid (hkC.out _ _ _ hK.out hC)
  rw [show (((((SSt.init.ents [4, 4]).1.ents [9]).1.exi 4).exi 4).ents [4]).2 = 0 by decide]
  have hn := since_any hS 4
  rw [show (((((SSt.init.ents [4, 4]).1.ents [9]).1.exi 4).exi 4).ents [4]).1.sinI 4 = 3 by decide] at hn
  have ho := fun W (h : Keeps w10 W) => open_any (hS.keeps h) (hT.keeps (Keeps.trans hK.out h)) 2
  rw [show openN (((((SSt.init.ents [4, 4]).1.ents [9]).1.exi 4).exi 4).ents [4]).1 2 = 512 by decide] at ho
  replace hn := Lib.hid hn
  replace ho := Lib.hid ho
  clear hS hC h9
  go_wp2_with fail
  refine hn.out.mono ?_
  rintro e w11 ⟨rfl, hK4⟩
  replace hK4 := Lib.hid hK4
  go_wp2_with fail
  refine (ho.out w11 hK4.out).mono ?_
  rintro e w12 ⟨rfl, hK6⟩
  replace hK6 := Lib.hid (Keeps.trans hK4.out hK6)
  have ho4 := hof.out w12 [9] (by decide)
  rw [show withN 0 [9] = 512 by decide] at ho4
  replace ho4 := Lib.hid ho4
  go_wp2_with fail
  refine ho4.out.mono ?_
  rintro e w13 ⟨rfl, rfl⟩
  go_wp2_with fail
  go_ret
  exact ⟨rfl, Keeps.trans hK.out (Keeps.trans hK6.out (Keeps.alloc _ _))⟩

set_option maxRecDepth 100000 in
set_option maxHeartbeats 1000000 in
theorem lawSectNil_any (r : Int) (w : World) (hT : TabAt w) :
    Calls Tryd.prog 6 #[.int .i64 r] w fun e w' => e = .returned (.bool true) ∧ Keeps w w' := by
  have hop := fun W (h : Keeps w W) => open_nil r W (hT.keeps h)
  replace hop := Lib.hid hop
  go_enter Tryd.func6, Tryd.ntmps6
  go_wp2_with fail
  refine (exit_nil r _).mono ?_
  rintro e w1 ⟨rfl, rfl⟩
  go_wp2_with fail
  refine (known09_any _ hT).mono ?_
  rintro e w1 ⟨rfl, hK⟩
  replace hK := Lib.hid hK
  go_wp2_with fail
  refine (enters_nil _ _ _ _).mono ?_
  rintro e w2 ⟨rfl, rfl⟩
  go_wp2_with fail
  refine (depth_nil r _).mono ?_
  rintro e w2 ⟨rfl, hK2⟩
  replace hK := Lib.hid (Keeps.trans (Keeps.trans hK.out (Keeps.alloc _ _)) hK2)
  clear hK2
  go_wp2_with fail
  refine (since_nil r _).mono ?_
  rintro e w3 ⟨rfl, hK2⟩
  replace hK := Lib.hid (Keeps.trans hK.out hK2)
  clear hK2
  go_wp2_with fail
  refine (in_nil _).mono ?_
  rintro e w4 ⟨rfl, rfl⟩
  go_wp2_with fail
  refine (hop.out _ hK.out).mono ?_
  rintro e w4 ⟨rfl, hK2⟩
  replace hK := Lib.hid (Keeps.trans hK.out hK2)
  clear hK2
  go_wp2_with fail
  refine (stamp_nil _).mono ?_
  rintro e w5 ⟨rfl, rfl⟩
  go_wp2_with fail
  go_ret
  exact ⟨rfl, hK.out⟩
end Go.Proofs.YtjinekckpgincaaDoor
