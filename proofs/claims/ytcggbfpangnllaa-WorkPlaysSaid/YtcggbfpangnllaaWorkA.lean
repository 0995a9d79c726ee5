/- The works, in memory; with, and what is done with one: the walks. -/
import Derived.Test.YtcggbfpangnllaaWorkM
import Derived.Deep.MidRow
import Derived.BigQuiet
import Derived.ChangeKeysEq
namespace Go.Proofs.Ytcggbfpangnllaa
open Go.RowKit Go.Shelf i64
attribute [local go_sem] Oper.semAt_some

/-- What holds of the works while a law goes. -/
structure WI (w : World) (k p rb cap n : Nat) (pp bb : Nat → Nat) (s : WS) (W : World) : Prop where
  blk : Blk W k 71 (workC p n s.sh s.pr s.on)
  pr : PR w p rb cap n pp bb s.Q s.Rn W
  new : w.heap.size ≤ k
  nf : ¬ Foot p rb n pp bb k
  n64 : n ≤ 64
  rng : ∀ i, 0 ≤ s.pr i ∧ s.pr i ≤ 16
  busy : ∀ c : Int, 0 ≤ c → cntTo s.on (c + 1) 32 ≤ 2
  onp : ∀ c, 0 ≤ s.on c
  onr : ∀ c : Nat, c < 32 → lkOB s.Rn (c : Int) = (s.on c != 0)
/-- The works' blocks. -/
def FW (k p rb n : Nat) (pp bb : Nat → Nat) (b : Nat) : Prop := Foot p rb n pp bb b ∨ b = k
theorem workC_len (p n : Nat) (sh : Nat → Bool) (pr on : Nat → Int) : (workC p n sh pr on).length = 546 := by simp [workC]
section
variable {w W W' : World} {k p rb cap n : Nat} {pp bb : Nat → Nat} {s : WS}
theorem WI.kept (h : WI w k p rb cap n pp bb s W) (hk : Keeps W W') : WI w k p rb cap n pp bb s W' := ⟨h.blk.keeps hk, h.pr.kept hk, h.new, h.nf, h.n64, h.rng, h.busy, h.onp, h.onr⟩
theorem WI.keeps (h : WI w k p rb cap n pp bb s W) : Keeps w W := h.pr.keeps
end
theorem blk_cellK {W : World} {b : Nat} {t : TypeId} {cs : List Value} (h : Blk W b t cs) (j : Nat) {v : Value} (hv : cs[j]? = some v) : W.cell? ⟨b, j, none⟩ = some v := h.cellK hv
set_option maxHeartbeats 400000 in
theorem with_nil (id : Int) (g : Nat) (lb : Array Value) (w : World) : Calls Try.prog 29 #[.pointer none, .int .i64 id, .func (.func g) #[] lb] w fun e w' => e = .returned (.int .i64 6) ∧ w = w' := by
  go_enter Try.func29, Try.ntmps29
  go_wp2
  go_ret
  exact ⟨rfl, rfl⟩
set_option maxHeartbeats 400000 in
theorem with_out (k : Nat) (id : Int) (h : ¬ inId id) (g : Nat) (lb : Array Value) (w : World) : Calls Try.prog 29 #[.pointer (some ⟨k, 0, none⟩), .int .i64 id, .func (.func g) #[] lb] w fun e w' => e = .returned (.int .i64 2) ∧ w = w' := by
  have hcase : id < 0 ∨ (¬ id < 0 ∧ 256 ≤ id) := by unfold inId at h; omega
  clear h
  rcases hcase with h1 | ⟨h1, h2⟩
  all_goals
    go_enter Try.func29, Try.ntmps29
    go_wp2
    go_ret
    exact ⟨rfl, rfl⟩
set_option maxHeartbeats 400000 in
theorem with_in {k i : Nat} (hi : i < 256) {g : Nat} {lb : Array Value} {W : World} {R : Int → World → Prop} (eg : ∀ args W, (callFunc g args).run Try.prog W = .ok (.enter g args) W)
    (hc : Calls Try.prog g (#[.pointer (some ⟨k, 2 + i * 2, none⟩)] ++ lb) W fun e w' => ∃ x, e = .returned (.int .i64 x) ∧ R x w') :
    Calls Try.prog 29 #[.pointer (some ⟨k, 0, none⟩), .int .i64 i, .func (.func g) #[] lb] W fun e w' => ∃ x, e = .returned (.int .i64 x) ∧ R x w' := by
  have h0 : (0 : Int) ≤ (i : Int) := by omega
  have h00 : ¬ (i : Int) < 0 := by omega
  have h1 : (i : Int) < 256 := by omega
  have h2 : ¬ (256 : Int) ≤ (i : Int) := by omega
  replace hc := Lib.hid hc
  go_enter Try.func29, Try.ntmps29
  go_wp2_with fail
  refine hc.out.mono ?_
  rintro e w' ⟨x, rfl, hR⟩
  replace hR := Lib.hid hR
  go_wp2_with fail
  go_ret
  exact ⟨x, rfl, hR.out⟩
theorem with_any {k : Nat} {id : Int} {g : Nat} {lb : Array Value} {W : World} {R : Int → World → Prop} (eg : ∀ args W, (callFunc g args).run Try.prog W = .ok (.enter g args) W) (hout : ¬ inId id → R 2 W)
    (hin : ∀ i : Nat, id = i → i < 256 → Calls Try.prog g (#[.pointer (some ⟨k, 2 + i * 2, none⟩)] ++ lb) W fun e w' => ∃ x, e = .returned (.int .i64 x) ∧ R x w') :
    Calls Try.prog 29 #[.pointer (some ⟨k, 0, none⟩), .int .i64 id, .func (.func g) #[] lb] W fun e w' => ∃ x, e = .returned (.int .i64 x) ∧ R x w' := by
  by_cases h : inId id
  · obtain ⟨i, rfl⟩ : ∃ i : Nat, id = i := ⟨id.toNat, by unfold inId at h; omega⟩
    have hi : i < 256 := by unfold inId at h; omega
    exact with_in hi eg (hin i rfl hi)
  · refine (with_out k id h g lb W).mono ?_
    rintro e w' ⟨rfl, rfl⟩
    exact ⟨2, rfl, hout h⟩
section
variable {W : World} {k i b p n : Nat} {sh : Nat → Bool} {pr on : Nat → Int}
set_option maxRecDepth 100000 in
set_option maxHeartbeats 400000 in
theorem setDo_any (hk : Blk W k 71 (workC p n sh pr on)) (hi : i < 256) (prog : Int) (hb : Boxed W b 3 (.int .i64 prog)) :
    Calls Try.prog 30 (#[.pointer (some ⟨k, 2 + i * 2, none⟩)] ++ #[.pointer (some ⟨b, 0, none⟩)]) W fun e w' =>
      e = .returned (.int .i64 (if prog < 0 ∨ 15 < prog then 2 else if sh i then 22 else 0)) ∧ w' = if prog < 0 ∨ 15 < prog then W else if sh i then W else W.setCell ⟨k, 2 + i * 2 + 1, none⟩ (.int .i64 (prog + 1)) := by
  show Calls Try.prog 30 #[.pointer (some ⟨k, 2 + i * 2, none⟩), .pointer (some ⟨b, 0, none⟩)] W _
  have hc := hb.cell
  by_cases h1 : prog < 0
  · rw [if_pos (.inl h1), if_pos (.inl h1)]
    clear hk hb
    go_enter Try.func30, Try.ntmps30
    go_wp2
    go_ret
    exact ⟨rfl, rfl⟩
  · by_cases h2 : 15 < prog
    · rw [if_pos (.inr h2), if_pos (.inr h2)]
      have h3 : 16 ≤ prog := by omega
      clear hk hb
      go_enter Try.func30, Try.ntmps30
      go_wp2
      go_ret
      exact ⟨rfl, rfl⟩
    · have h4 : ¬ (prog < 0 ∨ 15 < prog) := by omega
      have h5 : ¬ 16 ≤ prog := by omega
      have hs := hk.cellK (workC_sh (p := p) (n := n) (sh := sh) (pr := pr) (on := on) i hi)
      have hp := hk.cellK (workC_pr (p := p) (n := n) (sh := sh) (pr := pr) (on := on) i hi)
      have hf := hk.frozen (2 + i * 2 + 1)
      rw [if_neg h4, if_neg h4]
      have h6 : prog + 1 ≤ 9223372036854775807 := by omega
      have h7 : -9223372036854775808 ≤ prog + 1 := by omega
      clear hk hb h4
      cases hsh : sh i with
      | true =>
        rw [hsh] at hs
        rw [if_pos rfl, if_pos rfl]
        go_enter Try.func30, Try.ntmps30
        go_wp2
        go_ret
        exact ⟨rfl, rfl⟩
      | false =>
        rw [hsh] at hs
        rw [if_neg (by decide), if_neg (by decide)]
        go_enter Try.func30, Try.ntmps30
        go_wp2
        go_ret
        exact ⟨rfl, rfl⟩
end


/-! ### Busy -/
def onL (on : Nat → Int) : List Value := (List.range 32).map fun i => .int .i64 (on i)
theorem onL_len (on : Nat → Int) : (onL on).length = 32 := by simp [onL]
theorem onL_get (on : Nat → Int) (i : Nat) (h : i < 32) : (onL on)[i]? = some (.int .i64 (on i)) := by simp [onL, h]
theorem runIndex (cs : Array Value) (j : Nat) (hj : j < 32) (v : Value) (hv : cs[j]? = some v) (w : World) : (Instr.index 42 (.agg cs) (.int .i64 (j : Int))).run Try.prog w = .ok v w := by
  have h2 : (0 : Int) ≤ (j : Int) ∧ (j : Int) < ((32 : Nat) : Int) := by omega
  have hz : (sizeOf 3).run Try.prog w = .ok 1 w := by kernel_rfl
  simp [Instr.index, run_underlying Try.underlying42, asIntOf, h2, go_sem, hz, hv, hj]
theorem size32w : (Try.prog.info? 42).map (·.size) = some 32 := by kernel_rfl
section
variable {W : World} {k p n : Nat} {sh : Nat → Bool} {pr on : Nat → Int}
theorem onL_range (hk : Blk W k 71 (workC p n sh pr on)) : W.rangeAt k 514 (onL on) := fun j v hv => by
  have hj : j < 32 := by have := (List.getElem?_eq_some_iff.1 hv).1; rwa [onL_len] at this
  rw [onL_get on j hj] at hv
  cases hv
  exact hk.cellK (workC_on j hj)
set_option maxRecDepth 100000 in
set_option maxHeartbeats 1000000 in
theorem busyP_in (hk : Blk W k 71 (workC p n sh pr on)) (c : Nat) (hc : c < n) (h64 : n ≤ 64) : Calls Try.prog 13 #[.pointer (some ⟨k, 0, none⟩), .int .i64 c] W fun e w' => e = .returned (.int .i64 (cntTo on ((c : Int) + 1) 32 : Nat)) ∧ W = w' := by
  have hr := onL_range hk
  have hn := hk.cellK (workC_at (p := p) (n := n) (sh := sh) (pr := pr) (on := on) 1 (by decide))
  rw [show workF p n sh pr on 1 = .int .i64 (n : Int) from rfl] at hn
  have h0 : (0 : Int) ≤ (c : Int) := by omega
  have h1 : (c : Int) < (n : Int) := by omega
  have h2 : (c : Int) + 1 ≤ 9223372036854775807 := by omega
  have hget : ∀ i, i < 32 → (onL on)[i]? = some (.int .i64 (on i)) := onL_get on
  replace hget := Lib.hid hget
  replace hr := Lib.hid hr
  have hle := cntTo_le on ((c : Int) + 1)
  have hsu : ∀ i, cntTo on ((c : Int) + 1) (i + 1) = cntTo on ((c : Int) + 1) i + if on i = (c : Int) + 1 then 1 else 0 := fun i => rfl
  replace hsu := Lib.hid hsu
  replace hle := Lib.hid hle
  clear hk
  go_enter Try.func13, Try.ntmps13
  go_upto_region 3 with (fail)
  go_wp2_with (refine wpList_load_mid rfl _ _ rfl k 514 rfl (onL on) _ hr.out Try.underlying42 rfl (by rw [onL_len]; exact size32w) ?_)
  go_loopw [5, 26] (fun t i wr => ∃ j : Nat, j ≤ 32 ∧ i = .int .i64 j ∧ t = .int .i64 (cntTo on ((c : Int) + 1) j : Nat) ∧ W = wr) (fun _ i _ => 32 - (intOf i).toNat)
  case atStart => exact ⟨0, by omega, rfl, rfl, rfl⟩
  case round =>
    obtain ⟨j, hj, rfl, rfl, rfl⟩ := hrel
    have hj0 : (0 : Int) ≤ (j : Int) := by omega
    have hjl : j < 32 ∨ j = 32 := by omega
    rcases hjl with hlt | rfl
    · have hltI : (j : Int) < 32 := by omega
      have hg := hget.out j hlt
      have hs := hsu.out j
      have hl := hle.out j
      have hix := fun w => runIndex (onL on).toArray j hlt (.int .i64 (on j)) (by rw [← hg]; simp) w
      clear hg
      by_cases he : on j = (c : Int) + 1
      · rw [if_pos he] at hs
        have hq : (on j == (c : Int) + 1) = true := by simpa using he
        replace hs := Lib.hid hs
        replace he := Lib.hid he
        generalize on j = x at *
        generalize cntTo on ((c : Int) + 1) j = m at *
        have hm : (m : Int) + 1 ≤ 9223372036854775807 := by omega
        have hm0 : (0 : Int) ≤ (m : Int) := by omega
        go_wp2_with fail
        go_roundw
        case rel => exact ⟨j + 1, by omega, by go_num, by rw [hs.out]; go_num, trivial⟩
        case measure => (simp [intOf]; try omega)
      · rw [if_neg he] at hs
        have hq : (on j == (c : Int) + 1) = false := by simpa using he
        replace hs := Lib.hid hs
        replace he := Lib.hid he
        generalize on j = x at *
        generalize cntTo on ((c : Int) + 1) j = m at *
        go_wp2_with fail
        go_roundw
        case rel => exact ⟨j + 1, by omega, by go_num, by rw [hs.out]; go_num, trivial⟩
        case measure => (simp [intOf]; try omega)
    · go_wp2_with fail
      go_ret
      exact ⟨rfl, rfl⟩
set_option maxHeartbeats 400000 in
theorem busyP_out (hk : Blk W k 71 (workC p n sh pr on)) (c : Int) (hc : c < 0 ∨ (n : Int) ≤ c) : Calls Try.prog 13 #[.pointer (some ⟨k, 0, none⟩), .int .i64 c] W fun e w' => e = .returned (.int .i64 0) ∧ W = w' := by
  have hn := hk.cellK (workC_at (p := p) (n := n) (sh := sh) (pr := pr) (on := on) 1 (by decide))
  rw [show workF p n sh pr on 1 = .int .i64 (n : Int) from rfl] at hn
  have hcase : (c < 0) ∨ (0 ≤ c ∧ ¬ c < 0 ∧ (n : Int) ≤ c ∧ ¬ c < (n : Int)) := by omega
  clear hc hk
  rcases hcase with h1 | ⟨h0, h1, h2, h3⟩
  · have h0 : ¬ 0 ≤ c := by omega
    go_enter Try.func13, Try.ntmps13
    go_wp2
    go_ret
    exact ⟨rfl, rfl⟩
  · go_enter Try.func13, Try.ntmps13
    go_wp2
    go_ret
    exact ⟨rfl, rfl⟩
theorem busyP_any (hk : Blk W k 71 (workC p n sh pr on)) (c : Int) (h64 : n ≤ 64) : Calls Try.prog 13 #[.pointer (some ⟨k, 0, none⟩), .int .i64 c] W fun e w' => e = .returned (.int .i64 (busyW n on c : Nat)) ∧ W = w' := by
  unfold busyW
  by_cases hc : c < 0 ∨ (n : Int) ≤ c
  · rw [if_pos hc]; exact busyP_out hk c hc
  · rw [if_neg hc]
    obtain ⟨x, rfl⟩ : ∃ x : Nat, c = x := ⟨c.toNat, by omega⟩
    exact busyP_in hk x (by omega) h64
end
theorem busyP_nil (c : Int) (W : World) : Calls Try.prog 13 #[.pointer none, .int .i64 c] W fun e w' => e = .returned (.int .i64 0) ∧ W = w' := by
  go_enter Try.func13, Try.ntmps13
  go_wp2
  go_ret
  exact ⟨rfl, rfl⟩
/-! ### One thing added, deleted -/
section
variable {w W W' : World} {p rb cap n : Nat} {pp bb : Nat → Nat} {Q Rn : List Th}
theorem PR.chg (h : PR w p rb cap n pp bb Q Rn W) {S : Nat → Prop} (hc : Chg S W W') (hS : ∀ k, Foot p rb n pp bb k → ¬ S k) (hN : ∀ k, S k → w.heap.size ≤ k) : PR w p rb cap n pp bb Q Rn W' := by
  obtain ⟨fr, fo, R, h1, h2, h3⟩ := h
  exact ⟨fr, fo, R, ⟨h1.at'.chg hc hS, h1.ok, h1.new, Chg.keeps hc h1.keeps (fun k hk hs => by have := hN k hs; omega)⟩, h2, h3⟩
theorem PR.ne (h : PR w p rb cap n pp bb Q Rn W) : p < W.heap.size := h.foot_lt p (.inl rfl)
theorem PR.add1 (h : PR w p rb cap n pp bb Q Rn W) (c a : Int) {v : Value} (hv : Ints W v [a]) (hsep : ∀ k, v.ownBlock = some k → ¬ Foot p rb n pp bb k) :
    Calls Try.prog 32 #[.pointer (some ⟨p, 0, none⟩), .int .i64 c, v] W fun e W' => e = .returned (.int .i64 (addC n Q c [a]).2) ∧ PR w p rb cap n pp bb (addC n Q c [a]).1 Rn W' ∧ Chg (Foot p rb n pp bb) W W' := by
  obtain ⟨fr, fo, R, h1, h2, h3⟩ := h
  by_cases hc : c < 0 ∨ (n : Int) ≤ c
  · refine (padd_out h1.at' c hc _).mono ?_
    rintro e W' ⟨rfl, rfl⟩
    unfold addC
    rw [if_pos hc]
    exact ⟨rfl, ⟨fr, fo, R, h1, h2, h3⟩, Chg.refl _ _⟩
  · obtain ⟨k, rfl⟩ : ∃ k : Nat, c = k := ⟨c.toNat, by omega⟩
    obtain ⟨e1, e2⟩ := Rel25.add k (by omega) [a] R Q h2 h1.ok
    refine (padd_any h1.at' h1.ok k (by omega) _ [a] hv (fun x hx _ => hsep x hx)).mono ?_
    rintro e W' ⟨he, ha, ho, hC⟩
    unfold addC
    rw [if_neg hc]
    exact ⟨by rw [he, e1], ⟨fr, fo, _, h1.chg ha ho hC, e2, h3⟩, hC⟩
theorem PR.del1 (h : PR w p rb cap n pp bb Q Rn W) (a : Int) {v : Value} (hv : Ints W v [a]) (hsep : ∀ k, v.ownBlock = some k → ¬ Foot p rb n pp bb k) :
    Calls Try.prog 39 #[.pointer (some ⟨p, 0, none⟩), v] W fun e W' => e = .returned (.int .i64 (if lkIB Q a then 1 else 0)) ∧ PR w p rb cap n pp bb (Q.eraseP (·.1 == a)) Rn W' ∧ Chg (Foot p rb n pp bb) W W' := by
  obtain ⟨fr, fo, R, h1, h2, h3⟩ := h
  have hd := h2.del a
  have hO := h1.ok.del1 a
  have e2 : delN R [a] = if lkIB Q a then 1 else 0 := by
    rw [← (h2.where' h1.ok a).1]
    show (if whB R a then 1 else 0) + 0 = _
    simp
  refine (pdel_any h1.at' h1.ok _ [a] hv (fun x hx _ => hsep x hx)).mono ?_
  rintro e W' ⟨he, ha, hC⟩
  rw [e2] at he
  refine ⟨?_, ⟨fr, fo, _, h1.chg ha hO hC, hd, h3⟩, hC⟩
  rw [he]; cases lkIB Q a <;> rfl
end
/-! ### What closures do -/
section
variable {w W W' : World} {k p rb cap n : Nat} {pp bb : Nat → Nat} {s : WS} {Q Rn : List Th}
/-- The queues have turned. -/
theorem WI.pend (h : WI w k p rb cap n pp bb s W) {Q' : List Th} (hr : PR w p rb cap n pp bb Q' s.Rn W') (hC : Chg (Foot p rb n pp bb) W W') : WI w k p rb cap n pp bb { s with Q := Q' } W' :=
  ⟨h.blk.chg hC h.nf, hr, h.new, h.nf, h.n64, h.rng, h.busy, h.onp, h.onr⟩
theorem PR.setK (hp : PR w p rb cap n pp bb Q Rn W) (hn : w.heap.size ≤ k) (hf : ¬ Foot p rb n pp bb k) (j : Nat) (v : Value) : PR w p rb cap n pp bb Q Rn (W.setCell ⟨k, j, none⟩ v) :=
  hp.chg (Chg.setCell (S := (· = k)) j v rfl) (fun x hx e => hf (e ▸ hx)) (fun x hx => by rw [hx]; exact hn)
theorem WI.setSh (h : WI w k p rb cap n pp bb s W) (i : Nat) (hi : i < 256) (b : Bool) : WI w k p rb cap n pp bb { s with sh := updB s.sh i b } (W.setCell ⟨k, 2 + i * 2, none⟩ (.bool b)) :=
  ⟨by rw [← workC_setSh i hi b]; exact h.blk.set _ _, h.pr.setK h.new h.nf _ _, h.new, h.nf, h.n64, h.rng, h.busy, h.onp, h.onr⟩
theorem WI.setPr (h : WI w k p rb cap n pp bb s W) (i : Nat) (hi : i < 256) (v : Int) (hv : 0 ≤ v ∧ v ≤ 16) : WI w k p rb cap n pp bb { s with pr := updI s.pr i v } (W.setCell ⟨k, 2 + i * 2 + 1, none⟩ (.int .i64 v)) :=
  ⟨by rw [← workC_setPr i hi v]; exact h.blk.set _ _, h.pr.setK h.new h.nf _ _, h.new, h.nf, h.n64, fun j => by unfold updI; dsimp only; split; exact hv; exact h.rng j, h.busy, h.onp, h.onr⟩
theorem WI.c0 (h : WI w k p rb cap n pp bb s W) : W.cell? ⟨k, 0, none⟩ = some (.pointer (some ⟨p, 0, none⟩)) := h.blk.cellK (workC_at 0 (by decide))
theorem WI.c1 (h : WI w k p rb cap n pp bb s W) : W.cell? ⟨k, 1, none⟩ = some (.int .i64 (n : Int)) := h.blk.cellK (workC_at 1 (by decide))
theorem WI.cSh (h : WI w k p rb cap n pp bb s W) (i : Nat) (hi : i < 256) : W.cell? ⟨k, 2 + i * 2, none⟩ = some (.bool (s.sh i)) := h.blk.cellK (workC_sh i hi)
theorem WI.cPr (h : WI w k p rb cap n pp bb s W) (i : Nat) (hi : i < 256) : W.cell? ⟨k, 2 + i * 2 + 1, none⟩ = some (.int .i64 (s.pr i)) := h.blk.cellK (workC_pr i hi)
theorem WI.sep (h : WI w k p rb cap n pp bb s W) {b : Nat} (hb : W.heap.size ≤ b) : ¬ Foot p rb n pp bb b := fun hf => by have := h.pr.foot_lt b hf; omega
theorem WI.addS (h : WI w k p rb cap n pp bb s W) (c a : Int) (W2 : World) (hK : Keeps (W.alloc (.cells #[.int .i64 a] 3)) W2) :
    Calls Try.prog 32 #[.pointer (some ⟨p, 0, none⟩), .int .i64 c, .slice (some ⟨W.heap.size, 0, none⟩) 1 1] W2 fun e W' => e = .returned (.int .i64 (addC n s.Q c [a]).2) ∧ WI w k p rb cap n pp bb { s with Q := (addC n s.Q c [a]).1 } W' ∧ Chg (Foot p rb n pp bb) W2 W' := by
  have hk := h.kept (Keeps.trans (Keeps.alloc _ _) hK)
  refine (hk.pr.add1 c a (Slc.below (ints_one25 W a) hK) fun x hx => ?_).mono ?_
  · obtain rfl : W.heap.size = x := by simpa [Value.ownBlock] using hx
    exact h.sep (Nat.le_refl _)
  · rintro e W' ⟨he, hr, hC⟩
    exact ⟨he, hk.pend hr hC, hC⟩
theorem WI.delS (h : WI w k p rb cap n pp bb s W) (a : Int) (W2 : World) (hK : Keeps (W.alloc (.cells #[.int .i64 a] 3)) W2) :
    Calls Try.prog 39 #[.pointer (some ⟨p, 0, none⟩), .slice (some ⟨W.heap.size, 0, none⟩) 1 1] W2 fun e W' => e = .returned (.int .i64 (if lkIB s.Q a then 1 else 0)) ∧ WI w k p rb cap n pp bb { s with Q := s.Q.eraseP (·.1 == a) } W' ∧ Chg (Foot p rb n pp bb) W2 W' := by
  have hk := h.kept (Keeps.trans (Keeps.alloc _ _) hK)
  refine (hk.pr.del1 a (Slc.below (ints_one25 W a) hK) fun x hx => ?_).mono ?_
  · obtain rfl : W.heap.size = x := by simpa [Value.ownBlock] using hx
    exact h.sep (Nat.le_refl _)
  · rintro e W' ⟨he, hr, hC⟩
    exact ⟨he, hk.pend hr hC, hC⟩
/-- A block of the law's own, far from the works, has turned. -/
theorem WI.far (h : WI w k p rb cap n pp bb s W) {S : Nat → Prop} (hC : Chg S W W') (hS : ∀ b, S b → ¬ Foot p rb n pp bb b ∧ b ≠ k ∧ w.heap.size ≤ b) : WI w k p rb cap n pp bb s W' :=
  ⟨h.blk.chg hC (fun e => (hS k e).2.1 rfl), h.pr.chg hC (fun b hb e => (hS b e).1 hb) (fun b hb => (hS b hb).2.2), h.new, h.nf, h.n64, h.rng, h.busy, h.onp, h.onr⟩
theorem Chg.fw {k p rb n : Nat} {pp bb : Nat → Nat} {W W' : World} (h : Chg (Foot p rb n pp bb) W W') : Chg (FW k p rb n pp bb) W W' := h.mono fun _ _ hs => .inl hs
theorem Chg.fwK {k p rb n : Nat} {pp bb : Nat → Nat} {W : World} (j : Nat) (v : Value) : Chg (FW k p rb n pp bb) W (W.setCell ⟨k, j, none⟩ v) := Chg.setCell _ _ (.inr rfl)
theorem inId_nat {i : Nat} (hi : i < 256) : inId (i : Int) := by unfold inId; omega
end
end Go.Proofs.Ytcggbfpangnllaa
