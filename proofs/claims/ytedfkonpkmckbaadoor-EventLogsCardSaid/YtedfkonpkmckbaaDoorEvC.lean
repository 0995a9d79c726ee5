/- The walks of events' texts: the document's. -/
import Derived.Test.YtedfkonpkmckbaaDoorEvB
namespace Go.Proofs.YtedfkonpkmckbaaDoor
open Go.RowKit Go.Lib

abbrev rvV (e : EvS) : Value := .agg #[.int .u64 (e.t : Int), .int .i64 e.k, .int .i64 e.a, .int .i64 e.b, .int .u64 (e.n : Int)]
set_option maxRecDepth 100000 in
set_option maxHeartbeats 1000000 in
theorem rword_any (k : Int) (w : World) : Calls Tryd.prog 9 #[.int .i64 k] w fun e w' => e = .returned (.string (str (wordB k))) ∧ Keeps w w' := by
  have hB := Blk.new w 9 wordsC
  have hK := Keeps.alloc w (.cells wordsC.toArray 9)
  have hC : wordsC.toArray = #[.string ⟨#[104, 111, 115, 116]⟩, .string ⟨#[115, 111, 102, 116]⟩, .string ⟨#[106, 111, 98]⟩, .string ⟨#[116, 97, 115, 107]⟩, .string ⟨#[101, 110, 100]⟩, .string ⟨#[99, 97, 108, 108]⟩, .string ⟨#[102, 114, 101, 101, 100]⟩, .string ⟨#[103, 111, 110, 101]⟩, .string ⟨#[109, 105, 115, 115, 101, 100]⟩, .string ⟨#[101, 109, 105, 116]⟩, .string ⟨#[111, 118, 101, 114]⟩, .string ⟨#[119, 97, 105, 116]⟩] := rfl
  rw [hC] at hK hB
  cases hk : isKd k with
  | false =>
    rw [(wordB_empty k).2 hk]
    have hK0 : str [] = ⟨#[]⟩ := rfl
    rw [hK0]
    have hcase : k < 0 ∨ (¬ k < 0 ∧ 11 < k) := by
      have : ¬ (0 ≤ k ∧ k ≤ 11) := fun h => by rw [(isKd_iff k).2 h] at hk; cases hk
      omega
    replace hK := Lib.hid hK
    clear hB hC hK0 hk
    rcases hcase with h2 | ⟨h1, h2⟩
    all_goals
      go_enter Tryd.func9, Tryd.ntmps9
      go_wp2_with fail
      go_ret
      exact ⟨rfl, hK.out⟩
  | true =>
    obtain ⟨h0, h1⟩ := (isKd_iff k).1 hk
    obtain ⟨n, rfl⟩ : ∃ n : Nat, k = n := ⟨k.toNat, by omega⟩
    have hwb : wordB (n : Int) = words.getD n [] := by unfold wordB; rw [if_pos hk, Int.toNat_natCast]
    have hn : n < 12 := by omega
    have hc : (w.alloc (.cells wordsC.toArray 9)).cell? ⟨w.heap.size, n, none⟩ = some (.string (str (words.getD n []))) := by
      rw [(Blk.new w 9 wordsC).cellD n (by show n < 12; exact hn)]
      have : n < words.length := hn
      simp [wordsC, List.getD, this]
    rw [hC] at hc
    rw [hwb]
    generalize str (words.getD n []) = s at *
    replace hK := Lib.hid hK
    clear hB hC hk hwb
    go_enter Tryd.func9, Tryd.ntmps9
    go_upto_region 2 with (fail)
    obtain ⟨W, hW⟩ : ∃ W, W = w.alloc (.cells #[.string ⟨#[104, 111, 115, 116]⟩, .string ⟨#[115, 111, 102, 116]⟩, .string ⟨#[106, 111, 98]⟩, .string ⟨#[116, 97, 115, 107]⟩, .string ⟨#[101, 110, 100]⟩, .string ⟨#[99, 97, 108, 108]⟩, .string ⟨#[102, 114, 101, 101, 100]⟩, .string ⟨#[103, 111, 110, 101]⟩, .string ⟨#[109, 105, 115, 115, 101, 100]⟩, .string ⟨#[101, 109, 105, 116]⟩, .string ⟨#[111, 118, 101, 114]⟩, .string ⟨#[119, 97, 105, 116]⟩] 9) := ⟨_, rfl⟩
    have hK2 := Lib.hid hK.out
    clear hK
    rw [← hW] at hc hK2 ⊢
    clear hW
    go_wp2_with fail
    go_ret
    exact ⟨rfl, hK2.out⟩
/-- Bytes as cells. -/
def byteV (b : UInt8) : Value := .int .u8 (b.toNat : Int)
theorem infoU8 : (Tryd.prog.info? 5).map (fun i => (i.zero, i.size, i.bytes)) = some (some (.int .u8 0), 1, 1) := by kernel_rfl
theorem ownsRow_one (w : World) (e : TypeId) (base : Nat) (v : Value) (hb : base ≤ w.heap.size) : (w.alloc (.cells #[v] e)).ownsRow base e 1 (.slice (some ⟨w.heap.size, 0, none⟩) 1 1) 1 [v] :=
  ⟨rfl, .inr ⟨w.heap.size, 1, #[v], rfl, hb, World.alloc_heap_new w _, Nat.le_refl _, by decide, rfl, rfl⟩⟩
theorem byteV_one (L : List UInt8) : ∀ y ∈ L.map byteV, y.oneCell' = true := by
  intro y hy; obtain ⟨b, _, rfl⟩ := List.mem_map.1 hy; rfl
theorem byteOf (x : Nat) (_h : x < 10) : IntKind.u8.wrap (IntKind.u64.wrap (48 + (x : Int))) = ((UInt8.ofNat (48 + x)).toNat : Int) := by
  rw [IntKind.wrap_u64, IntKind.wrap_u8, UInt8.toNat_ofNat']; omega
theorem conv_bytes {W : World} {v : Value} {L : List UInt8} (h : Slc W v (L.map byteV)) : ∃ p cap, v = .slice p L.length cap ∧ (0 < L.length → (convert 65 9 (.slice p L.length cap)).run Tryd.prog W = .ok (.string (str L)) W) := by
  obtain ⟨p, cap, hv, hl, hc, hn, hcell⟩ := h
  rw [List.length_map] at hv hl hcell
  refine ⟨p, cap, hv, fun hp => ?_⟩
  obtain ⟨b, off, rfl, _⟩ := hcell 0 hp
  refine run_convert_bytes_back (P := Tryd.prog) W 65 9 5 ⟨b, off, none⟩ cap L Tryd.underlying65 Tryd.underlying5 Tryd.underlying9 (fun j hj => ?_)
  obtain ⟨b', off', hp', h1⟩ := hcell j hj
  simp only [Option.some.injEq, Addr.mk.injEq] at hp'
  obtain ⟨rfl, rfl, _⟩ := hp'
  rw [add_plain, h1]
  simp [List.getD, hj, byteV]
set_option maxRecDepth 100000 in
set_option maxHeartbeats 2000000 in
theorem digits_any (u : Nat) (hu : u < 18446744073709551616) (w : World) : Calls Tryd.prog 28 #[.int .u64 u] w fun e w' => e = .returned (.string (str (decDigits u))) ∧ Keeps w w' := by
  have hlen := digits_len hu
  obtain ⟨D, hD⟩ : ∃ D, D = decDigits u := ⟨_, rfl⟩
  rw [← hD] at hlen ⊢
  replace hD := Lib.hid hD
  go_enter Tryd.func28, Tryd.ntmps28
  go_wp2_with fail
  go_loopw [0, 3] (fun nv ov wr => ∃ (m : Nat) (L : List UInt8), m < 18446744073709551616 ∧ nv = .int .u64 (m : Int) ∧ D = decDigits m ++ L ∧ Slc wr ov (L.map byteV) ∧ Keeps w wr) (fun nv _ _ => (RowKit.intOf nv).toNat)
  case atStart => exact ⟨u, [], hu, rfl, by rw [List.append_nil]; exact hD.out, Slc.nil _, Keeps.refl _⟩
  case round =>
    obtain ⟨m, L, hm, rfl, hDm, hsl, hK⟩ := hrel
    obtain ⟨wo, hwo⟩ : ∃ x : World, x = wr := ⟨_, rfl⟩
    rw [← hwo] at hsl hK ⊢
    clear hwo
    obtain ⟨op, ocap, hov, hsl0⟩ := conv_bytes hsl
    subst hov
    have hLl : L.length ≤ 20 := by rw [hDm, List.length_append] at hlen; omega
    have hm0 : (0 : Int) ≤ (m : Int) := by omega
    have hmod : (m : Int).tmod 10 = ((m % 10 : Nat) : Int) := by rw [Int.tmod_eq_emod_of_nonneg hm0]; omega
    have hdiv : (m : Int).tdiv 10 = ((m / 10 : Nat) : Int) := by rw [Int.tdiv_eq_ediv_of_nonneg hm0]; omega
    by_cases h9 : 9 < m
    · have h9I : (9 : Int) < (m : Int) := by omega
      have hb := byteOf (m % 10) (Nat.mod_lt _ (by decide))
      have hDm2 : D = decDigits (m / 10) ++ (UInt8.ofNat (48 + m % 10) :: L) := by
        rw [hDm, decDigits, dif_neg (by omega), List.append_assoc]; rfl
      have hx : m % 10 < 10 := Nat.mod_lt _ (by decide)
      generalize hc : UInt8.ofNat (48 + m % 10) = c at *
      generalize m % 10 = x at *
      have hK1 := Keeps.alloc wo (.cells #[Value.int .u8 (c.toNat : Int)] 5)
      have hown := ownsRow_one wo 5 wo.heap.size (.int .u8 (c.toNat : Int)) (Nat.le_refl _)
      have hs1 := Slc.below hsl hK1
      have hbsz : wo.heap.size ≤ (wo.alloc (.cells #[Value.int .u8 (c.toNat : Int)] 5)).heap.size := hK1.size
      have hxI : (0 : Int) ≤ (x : Int) := by omega
      have hxJ : (x : Int) < 10 := by omega
      have h48 : IntKind.u8.wrap (48 + (x : Int)) = (c.toNat : Int) := by
        rw [← hb, IntKind.wrap_u64, IntKind.wrap_u8, IntKind.wrap_u8]; omega
      replace hDm2 := Lib.hid hDm2
      replace hs1 := Lib.hid hs1
      replace hown := Lib.hid hown
      replace hK1 := Lib.hid hK1
      replace hK := Lib.hid hK
      replace hc := Lib.hid hc
      replace hDm := Lib.hid hDm
      clear hsl hb
      go_wp2_with (at_builtin; refine appS rfl _ _ 65 5 (.int .u8 0) 1 rfl Tryd.underlying65 infoU8 rfl wo.heap.size _ _ _ rfl hown.out _ _ rfl hs1.out (byteV_one L) ?_ ?_ ?_ ?_)
      case refine_1 => rw [List.length_map]; unfold maxLen; omega
      case refine_2 => rw [List.length_map]; omega
      case refine_3 => exact hbsz
      rintro v' w1 hr _ hb1
      have hs2 : Slc w1 v' ((c :: L).map byteV) := slc_of_row hr
      have hK2 := Lib.hid (Keeps.trans hK.out (Below.trans hK1.out hb1))
      clear hr hb1
      replace hs2 := Lib.hid hs2
      go_wp2_with fail
      go_roundw
      case rel => exact ⟨m / 10, c :: L, by omega, by first | rfl | go_num, hDm2.out, hs2.out, hK2.out⟩
      case measure => (simp [RowKit.intOf]; try omega)
    · have h9I : ¬ (9 : Int) < (m : Int) := by omega
      have hb := byteOf m (by omega)
      have hDm2 : D = UInt8.ofNat (48 + m) :: L := by rw [hDm, decDigits_one (by omega)]; rfl
      generalize hc : UInt8.ofNat (48 + m) = c at *
      have hK1 := Keeps.alloc wo (.cells #[Value.int .u8 (c.toNat : Int)] 5)
      have hown := ownsRow_one wo 5 wo.heap.size (.int .u8 (c.toNat : Int)) (Nat.le_refl _)
      have hs1 := Slc.below hsl hK1
      have hbsz : wo.heap.size ≤ (wo.alloc (.cells #[Value.int .u8 (c.toNat : Int)] 5)).heap.size := hK1.size
      have h48 : IntKind.u8.wrap (48 + (m : Int)) = (c.toNat : Int) := by
        rw [← hb, IntKind.wrap_u64, IntKind.wrap_u8, IntKind.wrap_u8]; omega
      replace hDm2 := Lib.hid hDm2
      replace hs1 := Lib.hid hs1
      replace hown := Lib.hid hown
      replace hK1 := Lib.hid hK1
      replace hK := Lib.hid hK
      replace hc := Lib.hid hc
      replace hDm := Lib.hid hDm
      clear hsl hb
      go_wp2_with (at_builtin; refine appS rfl _ _ 65 5 (.int .u8 0) 1 rfl Tryd.underlying65 infoU8 rfl wo.heap.size _ _ _ rfl hown.out _ _ rfl hs1.out (byteV_one L) ?_ ?_ ?_ ?_)
      case refine_1 => unfold maxLen; omega
      case refine_2 => omega
      rintro v' w1 hr _ hb1
      have hs2 : Slc w1 v' ((c :: L).map byteV) := slc_of_row hr
      obtain ⟨fp, fcap, hfv, hcv⟩ := conv_bytes hs2
      subst hfv
      have hcv1 := hcv (by simp)
      have hK2 := Lib.hid (Keeps.trans hK.out (Below.trans hK1.out hb1))
      clear hr hb1 hs2 hcv
      generalize hll : (c :: L).length = ll at *
      rw [← hDm2.out] at hcv1
      replace hll := Lib.hid hll
      go_wp2_with fail
      go_ret
      exact ⟨rfl, hK2.out⟩
theorem str_size (l : List UInt8) : (str l).size = l.length := by simp [str, ByteArray.size]
set_option maxHeartbeats 1000000 in
theorem number_any (n : Int) (h0 : -9223372036854775808 ≤ n) (h1 : n ≤ 9223372036854775807) (w : World) : Calls Tryd.prog 29 #[.int .i64 n] w fun e w' => e = .returned (.string (str (itoa n))) ∧ Keeps w w' := by
  by_cases hn : n < 0
  · obtain ⟨u, rfl⟩ : ∃ u : Nat, n = -(u : Int) := ⟨n.natAbs, by omega⟩
    have hd := digits_any u (by omega)
    have hwr : IntKind.u64.wrap (0 - IntKind.u64.wrap (-(u : Int))) = (u : Int) := by rw [IntKind.wrap_u64, IntKind.wrap_u64]; omega
    have hwr2 : IntKind.u64.wrap (-IntKind.u64.wrap (-(u : Int))) = (u : Int) := by rw [IntKind.wrap_u64, IntKind.wrap_u64]; omega
    rw [itoa_neg u (by omega), show (45 : UInt8) :: decDigits u = [45] ++ decDigits u from rfl, ← str_app, show str [45] = ⟨#[45]⟩ from rfl]
    have hsz : (str (decDigits u)).size ≤ 20 := by rw [str_size]; exact digits_len (by omega)
    generalize str (decDigits u) = s at *
    replace hd := Lib.hid hd
    go_enter Tryd.func29, Tryd.ntmps29
    go_wp2_with fail
    with_reducible refine (hd.out _).mono ?_
    rintro e w1 ⟨rfl, hK⟩
    replace hK := Lib.hid hK
    go_wp2_with fail
    go_ret
    exact ⟨rfl, hK.out⟩
  · obtain ⟨u, rfl⟩ : ∃ u : Nat, n = (u : Int) := ⟨n.toNat, by omega⟩
    have hd := digits_any u (by omega)
    have hwr : IntKind.u64.wrap (u : Int) = (u : Int) := by rw [IntKind.wrap_u64]; omega
    rw [itoa_nonneg]
    generalize str (decDigits u) = s at *
    replace hd := Lib.hid hd
    go_enter Tryd.func29, Tryd.ntmps29
    go_wp2_with fail
    with_reducible refine (hd.out _).mono ?_
    rintro e w1 ⟨rfl, hK⟩
    replace hK := Lib.hid hK
    go_wp2_with fail
    go_ret
    exact ⟨rfl, hK.out⟩
theorem textB_app {e : EvS} (h : isKd e.k = true) : str (decDigits e.t) ++ ⟨#[32]⟩ ++ str (wordB e.k) ++ ⟨#[32]⟩ ++ str (itoa e.a) ++ ⟨#[32]⟩ ++ str (itoa e.b) ++ ⟨#[32]⟩ ++ str (decDigits e.n) = str (textB e) := by
  unfold textB parts
  rw [if_pos h, join5, show (⟨#[32]⟩ : ByteArray) = str [32] from rfl]
  simp only [str_app]
  congr 1
  simp
end Go.Proofs.YtedfkonpkmckbaaDoor
