/- IsaParses. -/
import Derived.Test.YtmmglikbajiepaaDoorIsaK2
import Derived.Deep.DeepCutAuto
import Derived.Deep.CutBlock
namespace Go.Proofs.YtmmglikbajiepaaDoor
open Go.RowKit

theorem bool_neq_self (n : Int) : (n != n) = false := by simp
theorem parseM_E (b : List Int) (h : (parseM b).2.2 = 0) : (parseM b).1 = chunksM b ∧ bytesE (chunksM b) = 0 ∧ b.length % 8 = 0 := by
  unfold parseM at h ⊢
  by_cases h1 : bytesE (chunksM b) ≠ 0
  · rw [if_pos h1] at h
    exact absurd h h1
  · rw [if_neg h1] at h ⊢
    by_cases h2 : 0 < b.length % 8
    · rw [if_pos h2] at h
      simp at h
    · rw [if_neg h2]
      exact ⟨rfl, by simpa using h1, by omega⟩
theorem parseM_len (b : List Int) : (parseM b).1.length ≤ b.length / 8 := by
  unfold parseM
  split
  · simp
  · split
    · simp
    · simp [chunksM, chunksN_len]
/-! ### Bytes parsed are those bytes -/
theorem sgn16 {x : Int} (h0 : 0 ≤ x) (h1 : x < 65536) : lowL (sgn 32768 x) 2 = [x % 256, x / 256] := by
  have e : ∀ y : Int, lowL y 2 = [y % 256, y / 256 % 256] := fun y => rfl
  rw [e]
  unfold sgn
  split
  · rw [show (x - 2 * 32768) % 256 = x % 256 by omega, show (x - 2 * 32768) / 256 % 256 = x / 256 by omega]
  · rw [show x / 256 % 256 = x / 256 by omega]
theorem sgn32 {x : Int} (h0 : 0 ≤ x) (h1 : x < 4294967296) : lowL (sgn 2147483648 x) 4 = [x % 256, x / 256 % 256, x / 65536 % 256, x / 16777216] := by
  have e : ∀ y : Int, lowL y 4 = [y % 256, y / 256 % 256, y / 256 / 256 % 256, y / 256 / 256 / 256 % 256] := fun y => rfl
  rw [e]
  unfold sgn
  split
  · rw [show (x - 2 * 2147483648) % 256 = x % 256 by omega, show (x - 2 * 2147483648) / 256 % 256 = x / 256 % 256 by omega, show (x - 2 * 2147483648) / 256 / 256 % 256 = x / 65536 % 256 by omega, show (x - 2 * 2147483648) / 256 / 256 / 256 % 256 = x / 16777216 by omega]
  · rw [show x / 256 / 256 % 256 = x / 65536 % 256 by omega, show x / 256 / 256 / 256 % 256 = x / 16777216 by omega]
theorem insB_one (l : List Int) (h : 8 ≤ l.length) (hr : ∀ z ∈ l, 0 ≤ z ∧ z < 256) : insB (insAt8 l) = l.take 8 := by
  match l, h, hr with
  | b0 :: b1 :: b2 :: b3 :: b4 :: b5 :: b6 :: b7 :: r, _, hr =>
    simp only [List.mem_cons, forall_eq_or_imp] at hr
    obtain ⟨⟨l0, u0⟩, ⟨l1, u1⟩, ⟨l2, u2⟩, ⟨l3, u3⟩, ⟨l4, u4⟩, ⟨l5, u5⟩, ⟨l6, u6⟩, ⟨l7, u7⟩, _⟩ := hr
    have e1 : insAt8 (b0 :: b1 :: b2 :: b3 :: b4 :: b5 :: b6 :: b7 :: r) = oneM b0 b1 b2 b3 b4 b5 b6 b7 := rfl
    rw [e1]
    unfold insB oneM
    simp only
    rw [sgn16 (by omega) (by omega), sgn32 (by omega) (by omega)]
    simp only [List.cons_append, List.nil_append, List.take_succ_cons, List.take_zero, List.cons.injEq, and_true]
    omega
theorem insBs_chunks : ∀ (n : Nat) (l : List Int), l.length = 8 * n → (∀ z ∈ l, 0 ≤ z ∧ z < 256) → (chunksN n l).flatMap insB = l
  | 0, l, h, _ => by rw [chunksN, List.flatMap_nil, List.eq_nil_of_length_eq_zero (l := l) (by omega)]
  | n + 1, l, h, hr => by
    rw [chunksN, List.flatMap_cons, insB_one l (by omega) hr, insBs_chunks n (l.drop 8) (by rw [List.length_drop]; omega) (fun z hz => hr z (List.mem_of_mem_drop hz)), List.take_append_drop]
theorem insBs_parse (b : List Int) (hr : ∀ z ∈ b, 0 ≤ z ∧ z < 256) (h : (parseM b).2.2 = 0) : ((parseM b).1).flatMap insB = b ∧ bytesE (parseM b).1 = 0 := by
  obtain ⟨h1, h2, h3⟩ := parseM_E b h
  rw [h1]
  exact ⟨insBs_chunks _ b (by omega) hr, h2⟩
theorem five_of {α β : Type} {g : α → β} {l : List α} {a b c d e : β} (h : l.map g = [a, b, c, d, e]) : ∃ x y z u v, l = [x, y, z, u, v] ∧ g x = a ∧ g y = b ∧ g z = c ∧ g u = d ∧ g v = e := by
  match l, h with
  | [x, y, z, u, v], h => simp only [List.map_cons, List.map_nil, List.cons.injEq, and_true] at h; exact ⟨x, y, z, u, v, rfl, h.1, h.2.1, h.2.2.1, h.2.2.2.1, h.2.2.2.2⟩
  | [], h => cases h
  | [_], h => cases h
  | [_, _], h => cases h
  | [_, _, _], h => cases h
  | [_, _, _, _], h => cases h
  | _ :: _ :: _ :: _ :: _ :: _ :: _, h => cases h
theorem fieldsRIns : (Tryd.prog.fieldsOf 29).toList.map (fun f => (f.name, f.type, f.offset)) = [("Op", 3, 0), ("Dst", 3, 1), ("Src", 3, 2), ("Off", 3, 3), ("Imm", 3, 4)] := by kernel_rfl
theorem neqIns (a b c d e : Int) (w : World) : (binOp .neq 29 (.agg #[.int .i64 a, .int .i64 b, .int .i64 c, .int .i64 d, .int .i64 e]) (.agg #[.int .i64 a, .int .i64 b, .int .i64 c, .int .i64 d, .int .i64 e])).run Tryd.prog w = .ok (.bool false) w := by
  rw [run_neq_struct, run_equalIn_struct w 9999 _ _ _ (by kernel_rfl) (by kernel_rfl)]
  obtain ⟨f1, f2, f3, f4, f5, hl, h1, h2, h3, h4, h5⟩ := five_of fieldsRIns
  rw [hl]
  simp only [Prod.mk.injEq] at h1 h2 h3 h4 h5
  obtain ⟨n1, t1, o1⟩ := h1
  obtain ⟨n2, t2, o2⟩ := h2
  obtain ⟨n3, t3, o3⟩ := h3
  obtain ⟨n4, t4, o4⟩ := h4
  obtain ⟨n5, t5, o5⟩ := h5
  have hu : Tryd.prog.underlying 3 = some (.int .i64) := Tryd.underlying3
  rw [eqF_cons (a := .int .i64 a) (b := .int .i64 a) (e := a == a) w (by rw [n1]; decide) (by rw [t1, o1]; kernel_rfl) (by rw [t1, o1]; kernel_rfl) (by rw [t1]; exact run_equalIn_int w 9998 _ _ _ _ _ hu)]
  rw [eqF_cons (a := .int .i64 b) (b := .int .i64 b) (e := b == b) w (by rw [n2]; decide) (by rw [t2, o2]; kernel_rfl) (by rw [t2, o2]; kernel_rfl) (by rw [t2]; exact run_equalIn_int w 9998 _ _ _ _ _ hu)]
  rw [eqF_cons (a := .int .i64 c) (b := .int .i64 c) (e := c == c) w (by rw [n3]; decide) (by rw [t3, o3]; kernel_rfl) (by rw [t3, o3]; kernel_rfl) (by rw [t3]; exact run_equalIn_int w 9998 _ _ _ _ _ hu)]
  rw [eqF_cons (a := .int .i64 d) (b := .int .i64 d) (e := d == d) w (by rw [n4]; decide) (by rw [t4, o4]; kernel_rfl) (by rw [t4, o4]; kernel_rfl) (by rw [t4]; exact run_equalIn_int w 9998 _ _ _ _ _ hu)]
  rw [eqF_cons (a := .int .i64 e) (b := .int .i64 e) (e := e == e) w (by rw [n5]; decide) (by rw [t5, o5]; kernel_rfl) (by rw [t5, o5]; kernel_rfl) (by rw [t5]; exact run_equalIn_int w 9998 _ _ _ _ _ hu)]
  simp [Op.eqFields, Sem.run_pure]
set_option maxRecDepth 100000 in
set_option maxHeartbeats 4000000 in
theorem lawParses_any (b : List Int) {v : Value} {w : World} (hv : Byts w v b) (hb : ∀ z ∈ b, 0 ≤ z ∧ z < 256) (hT : Tabs w) : Calls Tryd.prog 7 #[v] w fun e w' => e = .returned (.bool true) ∧ Keeps w w' := by
  obtain ⟨p, cap, rfl, hl, hc, hcell⟩ := hv.open
  obtain ⟨k, hk⟩ : ∃ k, k = (min (b.length : Int) 400).toNat := ⟨_, rfl⟩
  have hkl : k ≤ b.length := by omega
  have hk4 : k ≤ 400 := by omega
  have hv2 : Byts w (.slice p k cap) (b.take k) := by
    have := Slc.take hv k (by rw [List.length_map]; exact hkl)
    rw [← List.map_take] at this
    exact this
  have hb2 : ∀ z ∈ b.take k, 0 ≤ z ∧ z < 256 := fun z hz => hb z (List.mem_of_mem_take hz)
  have hlen : (b.take k).length = k := by rw [List.length_take]; omega
  have hl0 : (0 : Int) ≤ (b.length : Int) := by omega
  have hpar := insBs_parse (b.take k) hb2
  have hpl := parseM_len (b.take k)
  have fr := fun (W : World) (hk' : Keeps w W) => rparse_any (b.take k) (by omega) hb2 _ W (Byts.keeps hv2 hk')
  have fp := fun (W : World) (hk' : Keeps w W) => parse_any (b.take k) (by omega) hb2 _ W (Byts.keeps hv2 hk')
  have fkn := fun (W : World) (hk : Keeps w W) => known_any W (hT.keeps hk)
  obtain ⟨r, hr⟩ : ∃ r, r = parseM (b.take k) := ⟨_, rfl⟩
  rw [← hr] at hpar hpl fr fp
  rw [hlen] at hpl
  obtain ⟨is, at', er⟩ := r
  simp only at hpar hpl fr fp
  clear hcell hv hr hb
  generalize b.take k = b2 at *
  replace fr := Lib.hid fr
  replace fp := Lib.hid fp
  replace fkn := Lib.hid fkn
  replace hpar := Lib.hid hpar
  replace hv2 := Lib.hid hv2
  replace hb2 := Lib.hid hb2
  clear hT
  go_enter Tryd.func7, Tryd.ntmps7
  go_wp2_with fail
  rw [← hk]
  clear hk
  refine (fr.out _ (Keeps.refl _)).mono ?_
  rintro e w1 ⟨v3, rfl, hS3, hK1⟩
  obtain ⟨q3, c3, rfl, hl3, hc3, hcell3⟩ := hS3.get
  rw [List.length_map] at hl3 hcell3 hS3 ⊢
  have fp2 := fp.out _ hK1
  replace hS3 := Lib.hid hS3
  replace hK1 := Lib.hid hK1
  replace hcell3 := Lib.hid hcell3
  clear fr fp
  go_wp2_with fail
  refine fp2.mono ?_
  clear fp2
  rintro e w2 ⟨v6, rfl, hS6, hK2⟩
  obtain ⟨q6, c6, rfl, hl6, hc6, hcell6⟩ := hS6.get
  rw [List.length_map] at hl6 hcell6 hS6 ⊢
  have hKb := hK1.out.trans hK2
  have fb := fun (W : World) (hk' : Keeps w2 W) => bytes_any is (by omega) _ W (SlcS.below hS6 hk')
  have fsm := fun (W : World) (hk' : Keeps w W) {v' : Value} (h : Byts W v' b2) => same_any b2 b2 _ v' W (Byts.keeps hv2.out hk') h
  replace fb := Lib.hid fb
  replace fsm := Lib.hid @fsm
  replace hK2 := Lib.hid hK2
  replace hKb := Lib.hid hKb
  replace hS6 := Lib.hid hS6
  replace hcell6 := Lib.hid hcell6
  have hn0 : (0 : Int) ≤ (is.length : Int) := by omega
  go_wp2_with fail
  go_loopw [9] (fun iv wr => ∃ j : Nat, j ≤ is.length ∧ iv = .int .i64 (j : Int) ∧ Keeps w2 wr) (fun iv _ => is.length - (intOf iv).toNat)
  case atStart => exact ⟨0, by omega, rfl, Keeps.refl _⟩
  case round =>
    obtain ⟨j, hj, rfl, hK⟩ := hrel
    have hj0 : (0 : Int) ≤ (j : Int) := by omega
    by_cases hlt : j < is.length
    · have hltI := Int.ofNat_lt.2 hlt
      obtain ⟨ub, uo, rfl, hcu⟩ := hcell6.out j hlt
      obtain ⟨vb, vo, rfl, hcv⟩ := hcell3.out j hlt
      have e0 : (is.map insC).getD j [] = insC is[j] := by simp [List.getD, hlt]
      rw [e0] at hcu hcv
      generalize is[j] = e at hcu hcv
      have fo := fun (W : World) => of_any e W
      obtain ⟨op, dst, src, off, imm⟩ := e
      simp only [insV] at fo
      have hh := Lib.hid (show ∀ w' : World, Keeps wr w' → (w'.cell? ⟨ub, uo + j * 5, none⟩ = some (.int .i64 op) ∧ w'.cell? ⟨ub, uo + j * 5 + 1, none⟩ = some (.int .i64 dst) ∧ w'.cell? ⟨ub, uo + j * 5 + 2, none⟩ = some (.int .i64 src) ∧ w'.cell? ⟨ub, uo + j * 5 + 3, none⟩ = some (.int .i64 off) ∧ w'.cell? ⟨ub, uo + j * 5 + 4, none⟩ = some (.int .i64 imm) ∧ w'.cell? ⟨vb, vo + j * 5, none⟩ = some (.int .i64 op) ∧ w'.cell? ⟨vb, vo + j * 5 + 1, none⟩ = some (.int .i64 dst) ∧ w'.cell? ⟨vb, vo + j * 5 + 2, none⟩ = some (.int .i64 src) ∧ w'.cell? ⟨vb, vo + j * 5 + 3, none⟩ = some (.int .i64 off) ∧ w'.cell? ⟨vb, vo + j * 5 + 4, none⟩ = some (.int .i64 imm)) from fun w' h => by
        have hu' := Keeps.trans hK h
        have hv' := Keeps.trans hK2.out hu'
        exact ⟨kcell15 hu' (hcu 0 (by decide)), kcell15 hu' (hcu 1 (by decide)), kcell15 hu' (hcu 2 (by decide)), kcell15 hu' (hcu 3 (by decide)), kcell15 hu' (hcu 4 (by decide)), kcell15 hv' (hcv 0 (by decide)), kcell15 hv' (hcv 1 (by decide)), kcell15 hv' (hcv 2 (by decide)), kcell15 hv' (hcv 3 (by decide)), kcell15 hv' (hcv 4 (by decide))⟩)
      replace hK := Lib.hid hK
      replace fo := Lib.hid fo
      clear hcu hcv e0
      go_upto_region 9 with (fail)
      go_region_held3 (fun w' => w'.cell? ⟨ub, uo + j * 5, none⟩ = some (.int .i64 op) ∧ w'.cell? ⟨ub, uo + j * 5 + 1, none⟩ = some (.int .i64 dst) ∧ w'.cell? ⟨ub, uo + j * 5 + 2, none⟩ = some (.int .i64 src) ∧ w'.cell? ⟨ub, uo + j * 5 + 3, none⟩ = some (.int .i64 off) ∧ w'.cell? ⟨ub, uo + j * 5 + 4, none⟩ = some (.int .i64 imm) ∧ w'.cell? ⟨vb, vo + j * 5, none⟩ = some (.int .i64 op) ∧ w'.cell? ⟨vb, vo + j * 5 + 1, none⟩ = some (.int .i64 dst) ∧ w'.cell? ⟨vb, vo + j * 5 + 2, none⟩ = some (.int .i64 src) ∧ w'.cell? ⟨vb, vo + j * 5 + 3, none⟩ = some (.int .i64 off) ∧ w'.cell? ⟨vb, vo + j * 5 + 4, none⟩ = some (.int .i64 imm))
        (first
          | (refine hh.out _ ?_; first | exact Keeps.drew _ | exact hKc)
          | go_keep)
        (first
          | (go_at_call 22; with_reducible refine (fo.out _).mono ?_; rintro e w2 ⟨rfl, hK2'⟩; have hKc := Keeps.trans (Keeps.drew wr) hK2'))
      all_goals
        have hKe := Lib.hid (Keeps.trans hK.out hKc)
        clear hKc hK hh
        go_wp2_with fail
        go_roundw
        case rel => exact ⟨j + 1, by omega, by go_num, hKe.out⟩
        case measure => (simp [intOf]; try omega)
    · obtain rfl : j = is.length := by omega
      have hKe := hKb.out.trans hK
      by_cases her : er = 0
      · obtain ⟨hp1, hp2⟩ := hpar.out her
        have fb2 := fb.out _ hK
        rw [hp2, if_pos rfl, hp1] at fb2
        subst her
        replace fb2 := Lib.hid fb2
        replace hKe := Lib.hid hKe
        clear hK fb hpar hp1 hp2
        go_wp2_with fail
        refine fb2.out.mono ?_
        rintro e w4 ⟨v', rfl, hv', hK4⟩
        have hKf := hKe.out.trans hK4
        have fk2 := fkn.out _ hKf
        replace hv' := Lib.hid hv'
        replace hKf := Lib.hid hKf
        clear hKe hK4
        go_wp2_with fail
        refine fk2.mono ?_
        rintro e w5 ⟨rfl, hK5⟩
        have hKg := hKf.out.trans hK5
        have fs2 := fsm.out _ hKg (Byts.keeps hv'.out hK5)
        rw [sameL_self] at fs2
        replace hKg := Lib.hid hKg
        clear fk2 hKf hK5
        go_wp2_with fail
        refine fs2.mono ?_
        rintro e w6 ⟨rfl, hK6⟩
        replace hKg := Lib.hid (hKg.out.trans hK6)
        clear fs2
        go_wp2_with fail
        go_ret
        exact ⟨rfl, hKg.out⟩
      · have heb : (er == 0) = false := by rw [beq_eq_false_iff_ne]; exact her
        have heb2 : (er != 0) = true := by rw [bne, heb]; rfl
        have fk2 := fkn.out _ hKe
        replace hKe := Lib.hid hKe
        clear hK fb hpar her
        go_wp2_with fail
        refine fk2.mono ?_
        rintro e w5 ⟨rfl, hK5⟩
        have hKg := Lib.hid (hKe.out.trans hK5)
        clear fk2
        go_wp2_with fail
        go_ret
        exact ⟨rfl, hKg.out⟩
end Go.Proofs.YtmmglikbajiepaaDoor
