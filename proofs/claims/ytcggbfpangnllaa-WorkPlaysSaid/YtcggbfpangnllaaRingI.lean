/- The walks of package ring, at int. -/
import Derived.Test.YtcggbfpangnllaaRingM
namespace Go.Proofs.Ytcggbfpangnllaa.i64
open Go.RowKit

/-- A ring at p over the block b: room places, the head, the things in order. -/
structure RingAt (w : World) (p b room hd : Nat) (xs : List Int) : Prop where
  ne : p ≠ b
  hdr : Blk w p 115 [.slice (some ⟨b, 0, none⟩) room room, .int .i64 hd, .int .i64 xs.length]
  buf : ∃ cs, Blk w b 3 cs ∧ cs.length = room ∧ Holds cs room hd (xs.map (Value.int .i64))
  hdlt : hd < room
  len : xs.length ≤ room
  lo : 1 ≤ room
  hi : room ≤ 256
theorem RingAt.below {w w' : World} {p b room hd n : Nat} {xs : List Int} (h : RingAt w p b room hd xs) (hb : Below n w w') (hp : p < n) (hq : b < n) : RingAt w' p b room hd xs :=
  ⟨h.ne, h.hdr.below hb hp, by obtain ⟨cs, h1, h2⟩ := h.buf; exact ⟨cs, h1.below hb hq, h2⟩, h.hdlt, h.len, h.lo, h.hi⟩
theorem RingAt.lt {w : World} {p b room hd : Nat} {xs : List Int} (h : RingAt w p b room hd xs) : p < w.heap.size ∧ b < w.heap.size := ⟨h.hdr.lt, by obtain ⟨cs, h1, _⟩ := h.buf; exact h1.lt⟩
theorem RingAt.keeps {w w' : World} {p b room hd : Nat} {xs : List Int} (h : RingAt w p b room hd xs) (hb : Keeps w w') : RingAt w' p b room hd xs := h.below hb h.lt.1 h.lt.2

theorem info : (Try.prog.info? 3).map (fun i => (i.zero, i.size, i.bytes)) = some (some (.int .i64 0), 1, 8) := by kernel_rfl

set_option maxHeartbeats 400000 in
theorem place_any (p b room hd n : Nat) (i : Int) (w : World) (hb : Blk w p 115 [.slice (some ⟨b, 0, none⟩) room room, .int .i64 hd, .int .i64 n]) (h1 : hd < room) (h2 : 1 ≤ room) (h3 : room ≤ 256) (h4 : 0 ≤ i) (h5 : i ≤ 1000) :
    Calls Try.prog 75 #[.pointer (some ⟨p, 0, none⟩), .int .i64 i] w fun e w' => e = .returned (.int .i64 (((hd + i.toNat) % room : Nat))) ∧ ∃ n, w' = w.drewN n := by
  have c0 := hb.cell 0 (by simp)
  have c1 := hb.cell 1 (by simp)
  simp only [List.getElem_cons_zero, List.getElem_cons_succ] at c0 c1
  obtain ⟨k, rfl⟩ := Int.eq_ofNat_of_zero_le h4
  have hr0 : ((room : Int) == 0) = false := by rw [beq_eq_false_iff_ne]; omega
  go_enter Try.func75, Try.ntmps75
  go_wp2
  go_quiet (fail)
  go_wp2
  go_ret
  exact ⟨ret_int (by simp), _, rfl⟩

set_option maxHeartbeats 400000 in
theorem new_no (room : Int) (w : World) (h : room < 1 ∨ 256 < room) :
    Calls Try.prog 56 #[.int .i64 room] w fun e w' => e = .returned (.tuple #[.pointer none, .int .i64 2]) ∧ w = w' := by
  by_cases h1 : room < 1
  · go_enter Try.func56, Try.ntmps56
    go_wp2
    go_ret2
    exact ⟨rfl, rfl⟩
  · have h2 : 256 < room := by omega
    clear h
    go_enter Try.func56, Try.ntmps56
    go_wp2
    go_ret2
    exact ⟨rfl, rfl⟩

set_option maxHeartbeats 400000 in
theorem new_yes (room : Nat) (w : World) (h1 : 1 ≤ room) (h2 : room ≤ 256) :
    Calls Try.prog 56 #[.int .i64 room] w fun e w' => e = .returned (.tuple #[.pointer (some ⟨w.heap.size + 1, 0, none⟩), .int .i64 0]) ∧ RingAt w' (w.heap.size + 1) w.heap.size room 0 [] ∧ Keeps w w' := by
  have hmk := make_run 22 3 (.int .i64 0) 8 Try.underlying22 info rfl room (by omega) (by omega)
  have hb := Blk.new w 3 (zeros room (.int .i64 0))
  go_enter Try.func56, Try.ntmps56
  go_wp2
  go_ret2
  refine ⟨rfl, ⟨by omega, ?_, ⟨_, hb.alloc _, zeros_len _ _, fun i hi => absurd hi (by simp)⟩, by omega, by simp, h1, h2⟩, (Keeps.alloc _ _).trans (Keeps.alloc _ _)⟩
  have := Blk.new (w.alloc (.cells (zeros room (.int .i64 0)).toArray 3)) 115 [.slice (some ⟨w.heap.size, 0, none⟩) room room, .int .i64 0, .int .i64 0]
  rw [World.size_alloc] at this
  exact this

set_option maxHeartbeats 400000 in
theorem len_nil (w : World) : Calls Try.prog 60 #[.pointer none] w fun e w' => e = .returned (.int .i64 0) ∧ w = w' := by
  go_enter Try.func60, Try.ntmps60
  go_wp2
  go_ret
  exact ⟨rfl, rfl⟩
set_option maxHeartbeats 400000 in
theorem len_any {p b room hd : Nat} {xs : List Int} {w : World} (h : RingAt w p b room hd xs) : Calls Try.prog 60 #[.pointer (some ⟨p, 0, none⟩)] w fun e w' => e = .returned (.int .i64 xs.length) ∧ w = w' := by
  have c2 := h.hdr.cell 2 (by simp)
  simp only [List.getElem_cons_zero, List.getElem_cons_succ] at c2
  go_enter Try.func60, Try.ntmps60
  go_wp2
  go_ret
  exact ⟨rfl, rfl⟩

set_option maxHeartbeats 400000 in
theorem at_no (q : Value) (i : Int) (w : World) (h : q = .pointer none ∨ ∃ p b room hd xs, q = .pointer (some ⟨p, 0, none⟩) ∧ RingAt w p b room hd xs ∧ (i < 0 ∨ (xs.length : Int) ≤ i)) :
    Calls Try.prog 73 #[q, .int .i64 i] w fun e w' => e = .returned (.tuple #[.int .i64 0, .bool false]) ∧ w = w' := by
  rcases h with rfl | ⟨p, b, room, hd, xs, rfl, h, hi⟩
  · go_enter Try.func73, Try.ntmps73
    go_wp2
    go_ret2
    exact ⟨rfl, rfl⟩
  · have c2 := h.hdr.cell 2 (by simp)
    simp only [List.getElem_cons_zero, List.getElem_cons_succ] at c2
    by_cases h0 : i < 0
    · go_enter Try.func73, Try.ntmps73
      go_wp2
      go_ret2
      exact ⟨rfl, rfl⟩
    · have hge : (xs.length : Int) ≤ i := by omega
      clear hi h
      go_enter Try.func73, Try.ntmps73
      go_wp2
      go_ret2
      exact ⟨rfl, rfl⟩

set_option maxHeartbeats 1000000 in
theorem at_yes {p b room hd : Nat} {xs : List Int} {w : World} (i : Nat) (h : RingAt w p b room hd xs) (hi : i < xs.length) :
    Calls Try.prog 73 #[.pointer (some ⟨p, 0, none⟩), .int .i64 i] w fun e w' => e = .returned (.tuple #[.int .i64 xs[i], .bool true]) ∧ ∃ n, w' = w.drewN n := by
  obtain ⟨hne, hb, ⟨cs, hbuf, hcl, hcs⟩, h1, h2, h3, h4⟩ := h
  have c0 := hb.cell 0 (by simp)
  have c2 := hb.cell 2 (by simp)
  simp only [List.getElem_cons_zero, List.getElem_cons_succ] at c0 c2
  have hj : (hd + i) % room < room := Nat.mod_lt _ (by omega)
  have hc := hbuf.cellD ((hd + i) % room) (by omega)
  have hv := hcs i (by simpa using hi)
  rw [show (xs.map (Value.int .i64)).getD i undef = .int .i64 xs[i] by simp [List.getD, hi]] at hv
  rw [hv] at hc
  have hplace := fun n => place_any p b room hd xs.length (i : Int) (w.drewN n) hb h1 h3 h4 (by omega) (by omega)
  rw [Int.toNat_natCast] at hplace
  clear hcs hv hbuf
  replace hplace := Lib.hid hplace
  generalize xs[i] = x at *
  generalize (hd + i) % room = j at *
  go_enter Try.func73, Try.ntmps73
  go_wp2
  go_quiet ((go_at_call 75; exact Calls.quiet_of (hplace.out _)))
  go_wp2
  go_ret2
  exact ⟨rfl, _, rfl⟩

set_option maxHeartbeats 400000 in
theorem push_nil (v : Value) (w : World) : Calls Try.prog 59 #[.pointer none, v] w fun e w' => e = .returned (.int .i64 0) ∧ w = w' := by
  go_enter Try.func59, Try.ntmps59
  go_wp2
  go_ret
  exact ⟨rfl, rfl⟩
/-- A slice of such numbers. -/
def Nums (w : World) (v : Value) (zs : List Int) : Prop := Slc w v (zs.map (Value.int .i64))
theorem Nums.get {w : World} {v : Value} {zs : List Int} (h : Nums w v zs) : ∃ q cap, v = .slice q zs.length cap ∧ zs.length ≤ cap ∧ cap ≤ 9223372036854775807 ∧
    ∀ k, (hk : k < zs.length) → ∃ c off, q = some ⟨c, off, none⟩ ∧ w.cell? ⟨c, off + k, none⟩ = some (.int .i64 zs[k]) := by
  obtain ⟨q, cap, hv, hl, hc, hn, h⟩ := h
  rw [List.length_map] at hv hl h
  refine ⟨q, cap, hv, hl, hc, fun k hk => ?_⟩
  obtain ⟨c, off, hp, hcell⟩ := h k hk
  exact ⟨c, off, hp, by rw [hcell]; simp [List.getD, hk]⟩
theorem RingAt.pushed {w : World} {p b room hd : Nat} {xs : List Int} (h : RingAt w p b room hd xs) (hlt : xs.length < room) (x : Int) :
    RingAt ((w.setCell ⟨b, (hd + xs.length) % room, none⟩ (.int .i64 x)).setCell ⟨p, 2, none⟩ (.int .i64 (xs.length + 1 : Nat))) p b room hd (xs ++ [x]) := by
  obtain ⟨hne, hb, ⟨cs, hbuf, hcl, hcs⟩, h1, h2, h3, h4⟩ := h
  refine ⟨hne, ?_, ⟨cs.set ((hd + xs.length) % room) (.int .i64 x), ?_, by simp [hcl], ?_⟩, h1, by simp; omega, h3, h4⟩
  · have := (hb.other hne ((hd + xs.length) % room) (.int .i64 x)).set 2 (.int .i64 (xs.length + 1 : Nat))
    simpa using this
  · exact (hbuf.set _ _).other (Ne.symm hne) _ _
  · intro i hi
    rw [List.length_map, List.length_append, List.length_singleton] at hi
    have hm : (hd + xs.length) % room < room := Nat.mod_lt _ (by omega)
    by_cases he : i = xs.length
    · subst he
      simp [List.getD, hcl, hm]
    · have hi' : i < xs.length := by omega
      have hne' : (hd + xs.length) % room ≠ (hd + i) % room := by
        intro h
        rcases mod_two (hd + xs.length) room (by omega) with h5 | h5 <;> rcases mod_two (hd + i) room (by omega) with h6 | h6 <;> omega
      have := hcs i (by simpa using hi')
      simp only [List.getD, List.getElem?_set, hne', if_false] at this ⊢
      rw [this]
      simp [List.getElem?_append, hi']
set_option maxRecDepth 100000 in
set_option maxHeartbeats 2000000 in
theorem push_any {p b room hd : Nat} {xs zs : List Int} {v : Value} {w : World} (h : RingAt w p b room hd xs) (hv : Nums w v zs) (hsep : ∀ c off n cap, v = .slice (some ⟨c, off, none⟩) n cap → 0 < n → c ≠ p ∧ c ≠ b) :
    Calls Try.prog 59 #[.pointer (some ⟨p, 0, none⟩), v] w fun e w' => e = .returned (.int .i64 (min zs.length (room - xs.length) : Nat)) ∧ RingAt w' p b room hd (xs ++ zs.take (room - xs.length)) ∧ Mut p b w w' := by
  obtain ⟨q, cap, rfl, hl, hc, hcell⟩ := hv.get
  have hz0 : (0 : Int) ≤ zs.length := by omega
  obtain ⟨d, hd'⟩ : ∃ d : Nat, d = room - xs.length := ⟨_, rfl⟩
  have hle := h.len
  have hlo := h.lo
  have hhi := h.hi
  have hdd : (room : Int) - (xs.length : Int) = (d : Int) := by omega
  have c0 := h.hdr.cell 0 (by simp)
  have c2 := h.hdr.cell 2 (by simp)
  simp only [List.getElem_cons_zero, List.getElem_cons_succ] at c0 c2
  have hs := fun c off (e : q = some ⟨c, off, none⟩) (h0 : 0 < zs.length) => hsep c off zs.length cap (by rw [e]) h0
  clear hsep hv
  rw [← hd']
  replace hd' := Lib.hid hd'
  by_cases hcase : zs.length ≤ d
  · have hmin := Lib.hid (show min zs.length d = zs.length by omega)
    have htake := Lib.hid (show zs.take d = zs.take zs.length by rw [List.take_of_length_le hcase, List.take_of_length_le (Nat.le_refl _)])
    have hroom := Lib.hid (show ∀ k, k < zs.length → xs.length + k < room by have := hd'.out; intro k hk; omega)
    have h0r := Lib.hid h
    clear h hle
    go_enter Try.func59, Try.ntmps59
    go_wp2
    go_quiet (fail)
    go_wp2_with fail
    go_loopw [27] (fun i wr => ∃ k : Nat, k ≤ zs.length ∧ i = .int .i64 k ∧ RingAt wr p b room hd (xs ++ zs.take k) ∧ Mut p b w wr) (fun i _ => zs.length - (intOf i).toNat)
    case atStart => exact ⟨0, Nat.zero_le _, rfl, by rw [List.take_zero, List.append_nil]; exact h0r.out.keeps (Keeps.drewN _ _), Mut.of_keeps (Keeps.drewN _ _)⟩
    case round =>
      obtain ⟨k, hk, rfl, hR, hM⟩ := hrel
      by_cases hlt : k < zs.length
      · have hkz : k < zs.length := by omega
        obtain ⟨c, off, rfl, hck⟩ := hcell k hkz
        obtain ⟨hs1, hs2⟩ := hs c off rfl (by omega)
        have hck' := (World.cell?_of_block (a := ⟨c, off + k, none⟩) (hM.block c (cell_lt hck) hs1 hs2)).trans hck
        have hlen : (xs ++ zs.take k).length = xs.length + k := by rw [List.length_append, List.length_take]; omega
        have hlt2 := hroom.out k hlt
        have hdr := hR.hdr
        rw [hlen] at hdr
        have hj : (hd + (xs.length + k)) % room < room := Nat.mod_lt _ (by omega)
        have hplace := fun n => place_any p b room hd (xs.length + k) ((xs.length : Int) + (k : Int)) (wr.drewN n) hdr hR.hdlt hlo hhi (by omega) (by omega)
        rw [show ((xs.length : Int) + (k : Int)).toNat = xs.length + k by omega] at hplace
        have c0 := hdr.cell 0 (by simp)
        have c2 := hdr.cell 2 (by simp)
        have f2 := hdr.frozen 2
        simp only [List.getElem_cons_zero, List.getElem_cons_succ] at c0 c2
        obtain ⟨cs, hbuf, hcl, _⟩ := hR.buf
        have cj := hbuf.cellD ((hd + (xs.length + k)) % room) (by omega)
        have fj := hbuf.frozen ((hd + (xs.length + k)) % room)
        have hpu := fun nq => (hR.keeps (Keeps.drewN wr nq)).pushed (by omega) zs[k]
        rw [hlen] at hpu
        have hnext := Lib.hid (show xs ++ zs.take (k + 1) = (xs ++ zs.take k) ++ [zs[k]] by rw [List.take_succ_eq_append_getElem hkz, List.append_assoc])
        have hx0 : (0 : Int) ≤ xs.length := by omega
        replace hpu := Lib.hid hpu
        replace hplace := Lib.hid hplace
        have hne := hR.ne
        clear hR hdr hcell hs hck hbuf hcl hlen
        generalize (hd + (xs.length + k)) % room = j at *
        go_wp2_with fail
        refine region_quiet_tail 12 (by kernel_rfl) (by kernel_rfl) ?_
        simp only [List.take_succ_cons, List.take_zero, List.drop_succ_cons, List.drop_zero]
        repeat (quiet_step ((go_at_call 75; exact Calls.quiet_of (hplace.out _))))
        refine wpQuiet_nil ?_
        rintro _ ⟨nq, rfl⟩
        go_wp2_with fail
        go_roundw
        case rel =>
          refine ⟨k + 1, by omega, by go_num, ?_, (hM.drewN nq).trans ((Mut.setB _ _).trans (Mut.setP _ _))⟩
          rw [hnext.out, show ((xs.length : Int) + (k : Int) + 1) = ((xs.length + k + 1 : Nat) : Int) by omega]
          exact hpu.out nq
        case measure => (simp [intOf]; try omega)
      · obtain rfl : k = zs.length := by omega
        clear hcell hs
        go_wp2_with fail
        go_ret
        exact ⟨ret_int (by rw [hmin.out]), by rw [htake.out]; exact hR, hM⟩
  · have hmin := Lib.hid (show min zs.length d = d by omega)
    have hroom := Lib.hid (show ∀ k, k < d → xs.length + k < room by have := hd'.out; intro k hk; omega)
    have h0r := Lib.hid h
    clear h hle
    go_enter Try.func59, Try.ntmps59
    go_wp2
    go_quiet (fail)
    go_wp2_with fail
    go_loopw [27] (fun i wr => ∃ k : Nat, k ≤ d ∧ i = .int .i64 k ∧ RingAt wr p b room hd (xs ++ zs.take k) ∧ Mut p b w wr) (fun i _ => d - (intOf i).toNat)
    case atStart => exact ⟨0, Nat.zero_le _, rfl, by rw [List.take_zero, List.append_nil]; exact h0r.out.keeps (Keeps.drewN _ _), Mut.of_keeps (Keeps.drewN _ _)⟩
    case round =>
      obtain ⟨k, hk, rfl, hR, hM⟩ := hrel
      by_cases hlt : k < d
      · have hkz : k < zs.length := by omega
        obtain ⟨c, off, rfl, hck⟩ := hcell k hkz
        obtain ⟨hs1, hs2⟩ := hs c off rfl (by omega)
        have hck' := (World.cell?_of_block (a := ⟨c, off + k, none⟩) (hM.block c (cell_lt hck) hs1 hs2)).trans hck
        have hlen : (xs ++ zs.take k).length = xs.length + k := by rw [List.length_append, List.length_take]; omega
        have hlt2 := hroom.out k hlt
        have hdr := hR.hdr
        rw [hlen] at hdr
        have hj : (hd + (xs.length + k)) % room < room := Nat.mod_lt _ (by omega)
        have hplace := fun n => place_any p b room hd (xs.length + k) ((xs.length : Int) + (k : Int)) (wr.drewN n) hdr hR.hdlt hlo hhi (by omega) (by omega)
        rw [show ((xs.length : Int) + (k : Int)).toNat = xs.length + k by omega] at hplace
        have c0 := hdr.cell 0 (by simp)
        have c2 := hdr.cell 2 (by simp)
        have f2 := hdr.frozen 2
        simp only [List.getElem_cons_zero, List.getElem_cons_succ] at c0 c2
        obtain ⟨cs, hbuf, hcl, _⟩ := hR.buf
        have cj := hbuf.cellD ((hd + (xs.length + k)) % room) (by omega)
        have fj := hbuf.frozen ((hd + (xs.length + k)) % room)
        have hpu := fun nq => (hR.keeps (Keeps.drewN wr nq)).pushed (by omega) zs[k]
        rw [hlen] at hpu
        have hnext := Lib.hid (show xs ++ zs.take (k + 1) = (xs ++ zs.take k) ++ [zs[k]] by rw [List.take_succ_eq_append_getElem hkz, List.append_assoc])
        have hx0 : (0 : Int) ≤ xs.length := by omega
        replace hpu := Lib.hid hpu
        replace hplace := Lib.hid hplace
        have hne := hR.ne
        clear hR hdr hcell hs hck hbuf hcl hlen
        generalize (hd + (xs.length + k)) % room = j at *
        go_wp2_with fail
        refine region_quiet_tail 12 (by kernel_rfl) (by kernel_rfl) ?_
        simp only [List.take_succ_cons, List.take_zero, List.drop_succ_cons, List.drop_zero]
        repeat (quiet_step ((go_at_call 75; exact Calls.quiet_of (hplace.out _))))
        refine wpQuiet_nil ?_
        rintro _ ⟨nq, rfl⟩
        go_wp2_with fail
        go_roundw
        case rel =>
          refine ⟨k + 1, by omega, by go_num, ?_, (hM.drewN nq).trans ((Mut.setB _ _).trans (Mut.setP _ _))⟩
          rw [hnext.out, show ((xs.length : Int) + (k : Int) + 1) = ((xs.length + k + 1 : Nat) : Int) by omega]
          exact hpu.out nq
        case measure => (simp [intOf]; try omega)
      · obtain rfl : k = d := by omega
        clear hcell hs
        go_wp2_with fail
        go_ret
        exact ⟨ret_int (by rw [hmin.out]), hR, hM⟩

theorem RingAt.popped {w : World} {p b room hd : Nat} {x : Int} {xs : List Int} (h : RingAt w p b room hd (x :: xs)) :
    RingAt (((w.setCell ⟨b, hd, none⟩ (.int .i64 0)).setCell ⟨p, 1, none⟩ (.int .i64 ((hd + 1) % room : Nat))).setCell ⟨p, 2, none⟩ (.int .i64 xs.length)) p b room ((hd + 1) % room) xs := by
  obtain ⟨hne, hb, ⟨cs, hbuf, hcl, hcs⟩, h1, h2, h3, h4⟩ := h
  simp only [List.length_cons] at h2
  refine ⟨hne, ?_, ⟨cs.set hd (.int .i64 0), ?_, by simp [hcl], ?_⟩, Nat.mod_lt _ (by omega), by omega, h3, h4⟩
  · have := ((hb.other hne hd (.int .i64 0)).set 1 (.int .i64 ((hd + 1) % room : Nat))).set 2 (.int .i64 xs.length)
    simpa using this
  · exact ((hbuf.set _ _).other (Ne.symm hne) _ _).other (Ne.symm hne) _ _
  · intro i hi
    rw [List.length_map] at hi
    have hm : ((hd + 1) % room + i) % room = (hd + (i + 1)) % room := by rw [Nat.mod_add_mod, Nat.add_assoc, Nat.add_comm 1 i]
    have hne' : hd ≠ (hd + (i + 1)) % room := by
      rcases mod_two (hd + (i + 1)) room (by omega) with h5 | h5 <;> omega
    have := hcs (i + 1) (by simp; omega)
    rw [hm]
    simp only [List.getD, List.getElem?_set, hne', if_false] at this ⊢
    rw [this]
    simp
set_option maxHeartbeats 400000 in
theorem pop_no (q : Value) (w : World) (h : q = .pointer none ∨ ∃ p b room hd, q = .pointer (some ⟨p, 0, none⟩) ∧ RingAt w p b room hd []) :
    Calls Try.prog 61 #[q] w fun e w' => e = .returned (.tuple #[.int .i64 0, .bool false]) ∧ w = w' := by
  have hat := at_no q 0 w (by
    rcases h with h | ⟨p, b, room, hd, h1, h2⟩
    · exact .inl h
    · exact .inr ⟨p, b, room, hd, [], h1, h2, .inr (by simp)⟩)
  clear h
  go_enter Try.func61, Try.ntmps61
  go_wp2_with fail
  refine hat.mono ?_
  rintro e w' ⟨rfl, rfl⟩
  go_wp2_with fail
  go_ret2
  exact ⟨rfl, rfl⟩
set_option maxRecDepth 100000 in
set_option maxHeartbeats 1000000 in
theorem pop_yes {p b room hd : Nat} {x : Int} {xs : List Int} {w : World} (h : RingAt w p b room hd (x :: xs)) :
    Calls Try.prog 61 #[.pointer (some ⟨p, 0, none⟩)] w fun e w' => e = .returned (.tuple #[.int .i64 x, .bool true]) ∧ RingAt w' p b room ((hd + 1) % room) xs ∧ Mut p b w w' := by
  have hat := at_yes 0 h (by simp)
  simp only [List.getElem_cons_zero] at hat
  have hall := fun n => (h.keeps (Keeps.drewN w n))
  have hne := h.ne
  have hlo := h.lo
  have hhi := h.hi
  have hdlt := h.hdlt
  have hll := h.len
  rw [List.length_cons] at hll
  replace hat := Lib.hid hat
  replace hall := Lib.hid hall
  have h1 := Lib.hid h
  clear h
  go_enter Try.func61, Try.ntmps61
  go_wp2_with fail
  refine hat.out.mono ?_
  rintro e w1 ⟨rfl, n1, rfl⟩
  replace h1 := h1.out
  have c0 := h1.hdr.cell 0 (by simp)
  have c1 := h1.hdr.cell 1 (by simp)
  have f1 := h1.hdr.frozen 1
  simp only [List.getElem_cons_zero, List.getElem_cons_succ] at c0 c1
  obtain ⟨cs, hbuf, hcl, _⟩ := h1.buf
  have cj := hbuf.cellD hd (by omega)
  have fj := hbuf.frozen hd
  clear hbuf hcl h1
  go_wp2_with fail
  refine region_quiet_tail 10 (by kernel_rfl) (by kernel_rfl) ?_
  simp only [List.take_succ_cons, List.take_zero, List.drop_succ_cons, List.drop_zero]
  repeat (quiet_step (fail))
  refine wpQuiet_nil ?_
  rintro _ ⟨n2, rfl⟩
  rw [World.drewN_drewN] at *
  have h2 := hall.out (n1 + n2)
  have hpop := Lib.hid (fun n => RingAt.popped (h2.keeps (Keeps.drewN _ n)))
  have hdr2 := (h2.hdr.other hne hd (.int .i64 0))
  obtain ⟨W, hW⟩ : ∃ W, W = (w.drewN (n1 + n2)).setCell ⟨b, hd, none⟩ (.int .i64 0) := ⟨_, rfl⟩
  rw [← hW] at hdr2
  have hplace := place_any p b room hd (xs.length + 1) 1 W hdr2 hdlt hlo hhi (by omega) (by omega)
  rw [show (1 : Int).toNat = 1 from rfl] at hplace
  have hM := Mut.drewN (Mut.of_keeps (p := p) (b := b) (Keeps.refl w)) (n1 + n2) |>.trans (Mut.setB (p := p) (b := b) hd (.int .i64 0))
  rw [← hW] at hM
  have g1 := hdr2.cell 1 (by simp)
  have k1 := hdr2.frozen 1
  have g2 := hdr2.cell 2 (by simp)
  have k2 := hdr2.frozen 2
  simp only [List.getElem_cons_zero, List.getElem_cons_succ, List.length_cons] at g1 g2
  replace hplace := Lib.hid hplace
  have hWH := Lib.hid hW
  clear h2 hdr2
  have hlen0 : (0 : Int) ≤ xs.length := by omega
  have hlen1 : (xs.length : Int) ≤ 256 := by omega
  go_wp2_with fail
  rw [← hW]
  clear hW
  with_reducible refine hplace.out.mono ?_
  rintro e w3 ⟨rfl, n3, rfl⟩
  generalize hhd : (hd + 1) % room = hd' at *
  replace hhd := Lib.hid hhd
  go_wp2_with fail
  go_ret2
  refine ⟨rfl, ?_, (hM.drewN n3).trans ((Mut.setP _ _).trans (Mut.setP _ _))⟩
  rw [hhd.out, hWH.out]
  exact hpop.out n3

/-- One thing, pushed out of a new slice. -/
theorem push1_any {p b room hd : Nat} {xs : List Int} {w : World} (h : RingAt w p b room hd xs) (hlt : xs.length < room) (x : Int) (sb : Nat) (hsb : sb = w.heap.size) :
    Calls Try.prog 59 #[.pointer (some ⟨p, 0, none⟩), .slice (some ⟨sb, 0, none⟩) 1 1] (w.alloc (.cells #[.int .i64 x] 3)) fun e w' => e = .returned (.int .i64 1) ∧ RingAt w' p b room hd (xs ++ [x]) ∧ Mut p b w w' := by
  subst hsb
  obtain ⟨hp, hb⟩ := h.lt
  have hn : Nums (w.alloc (.cells #[.int .i64 x] 3)) (.slice (some ⟨w.heap.size, 0, none⟩) 1 1) [x] := (Blk.new w 3 [Value.int .i64 x]).slc 1 1 (by simp) (Nat.le_refl _) (by decide)
  refine (push_any (h.keeps (Keeps.alloc _ _)) hn (fun c off n cap e _ => ?_)).mono ?_
  · simp only [Value.slice.injEq, Option.some.injEq, Addr.mk.injEq] at e
    omega
  · rintro e w' ⟨rfl, hR, hM⟩
    refine ⟨ret_int ?_, ?_, (Mut.of_keeps (Keeps.alloc _ _)).trans hM⟩
    · simp only [List.length_singleton]; omega
    · rw [List.take_of_length_le (by simp; omega)] at hR; exact hR
theorem push0_any {p b room hd : Nat} {xs : List Int} {w : World} (h : RingAt w p b room hd xs) (hfull : xs.length = room) (x : Int) (sb : Nat) (hsb : sb = w.heap.size) :
    Calls Try.prog 59 #[.pointer (some ⟨p, 0, none⟩), .slice (some ⟨sb, 0, none⟩) 1 1] (w.alloc (.cells #[.int .i64 x] 3)) fun e w' => e = .returned (.int .i64 0) ∧ RingAt w' p b room hd xs ∧ Mut p b w w' := by
  subst hsb
  obtain ⟨hp, hb⟩ := h.lt
  have hn : Nums (w.alloc (.cells #[.int .i64 x] 3)) (.slice (some ⟨w.heap.size, 0, none⟩) 1 1) [x] := (Blk.new w 3 [Value.int .i64 x]).slc 1 1 (by simp) (Nat.le_refl _) (by decide)
  refine (push_any (h.keeps (Keeps.alloc _ _)) hn (fun c off n cap e _ => ?_)).mono ?_
  · simp only [Value.slice.injEq, Option.some.injEq, Addr.mk.injEq] at e
    omega
  · rintro e w' ⟨rfl, hR, hM⟩
    refine ⟨ret_int ?_, ?_, (Mut.of_keeps (Keeps.alloc _ _)).trans hM⟩
    · simp only [hfull]; omega
    · rw [hfull, Nat.sub_self, List.take_zero, List.append_nil] at hR; exact hR
end Go.Proofs.Ytcggbfpangnllaa.i64
