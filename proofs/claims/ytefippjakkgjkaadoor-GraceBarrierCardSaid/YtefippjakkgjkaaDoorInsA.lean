/- The readers' places that a law of layer 12 keeps: in plain mathematics, and in memory. -/
import Derived.Test.YtefippjakkgjkaaDoorLaw12b
import Derived.Test.YtefippjakkgjkaaDoorModn
import Derived.Deep.MidRow
namespace Go.Proofs.YtefippjakkgjkaaDoor
open Go.RowKit

def upd (f : Nat → Int) (k : Nat) (v : Int) : Nat → Int := fun j => if j = k then v else f j
theorem upd_same (f : Nat → Int) (k : Nat) (v : Int) : upd f k v k = v := if_pos rfl
theorem upd_ne (f : Nat → Int) {k j : Nat} (v : Int) (h : j ≠ k) : upd f k v j = f j := if_neg h
/-- A row of numbers, cell by cell. -/
def arr (n : Nat) (f : Nat → Int) : List Value := (List.range n).map fun j => .int .i64 (f j)
theorem arr_len (n : Nat) (f : Nat → Int) : (arr n f).length = n := by simp [arr]
theorem arr_get (n : Nat) (f : Nat → Int) (j : Nat) (h : j < n) : (arr n f).getD j undef = .int .i64 (f j) := by simp [arr, List.getD, h]
theorem arr_zero (n : Nat) : arr n (fun _ => 0) = List.replicate n (.int .i64 0) := by
  apply List.ext_getElem
  · simp [arr]
  · intro i h1 h2; simp [arr]
theorem arr_congr (n : Nat) (f g : Nat → Int) (h : ∀ j, j < n → f j = g j) : arr n f = arr n g := by
  unfold arr
  exact List.map_congr_left fun j hj => by rw [h j (List.mem_range.1 hj)]
theorem arr_set (n : Nat) (f : Nat → Int) (k : Nat) (v : Int) : (arr n f).set k (.int .i64 v) = arr n (upd f k v) := by
  apply List.ext_getElem
  · simp [arr]
  · intro i h1 h2
    rw [List.getElem_set]
    simp only [arr, List.getElem_map, List.getElem_range, upd]
    by_cases e : k = i
    · rw [if_pos e, if_pos e.symm]
    · rw [if_neg e, if_neg (Ne.symm e)]
theorem arr_one (n : Nat) (f : Nat → Int) : ∀ c ∈ arr n f, c.oneCell' = true := by
  intro c hc
  simp only [arr, List.mem_map] at hc
  obtain ⟨_, _, rfl⟩ := hc; rfl
theorem arr_cell {W : World} {b n : Nat} {t : TypeId} {f : Nat → Int} (h : Blk W b t (arr n f)) (k : Nat) (hk : k < n) : W.cell? ⟨b, k, none⟩ = some (.int .i64 (f k)) := by
  rw [h.cellD k (by rw [arr_len]; exact hk), arr_get n f k hk]
theorem arr_upd {W : World} {b n : Nat} {t : TypeId} {f : Nat → Int} (h : Blk W b t (arr n f)) (k : Nat) (v : Int) : Blk (W.setCell ⟨b, k, none⟩ (.int .i64 v)) b t (arr n (upd f k v)) := by
  have := h.set k (.int .i64 v)
  rwa [arr_set] at this

/-- The readers' depths, the stamps of their sections, the last stamp. -/
def xf (S : SSt) : Nat → Int := fun j => if j < 64 then (S.dep j : Int) else if j < 128 then (S.sin (j - 64) : Int) else (S.st : Int)
theorem xf_dep (S : SSt) (k : Nat) (hk : k < 64) : xf S k = (S.dep k : Int) := by unfold xf; rw [if_pos hk]
theorem xf_sin (S : SSt) (k : Nat) (hk : k < 64) : xf S (64 + k) = (S.sin k : Int) := by unfold xf; rw [if_neg (by omega), if_pos (by omega), Nat.add_sub_cancel_left]
theorem xf_st (S : SSt) : xf S 128 = (S.st : Int) := by unfold xf; rw [if_neg (by omega), if_neg (by omega)]
theorem xf_ext {S : SSt} {f : Nat → Int} (hd : ∀ k, k < 64 → f k = (S.dep k : Int)) (hs : ∀ k, k < 64 → f (64 + k) = (S.sin k : Int)) (ht : f 128 = (S.st : Int)) : arr 129 f = arr 129 (xf S) := by
  refine arr_congr _ _ _ fun j hj => ?_
  by_cases h1 : j < 64
  · rw [hd j h1, xf_dep S j h1]
  · by_cases h2 : j < 128
    · have e : j = 64 + (j - 64) := by omega
      rw [e, hs _ (by omega), xf_sin S _ (by omega)]
    · have e : j = 128 := by omega
      subst e; rw [ht, xf_st]
theorem xf_set {S : SSt} (h : S.Ok) {k : Nat} (hk : k < 64) (d s m st : Nat) {f : Nat → Int} (e0 : f k = (d : Int)) (e1 : f (64 + k) = (s : Int)) (e2 : f 128 = (st : Int)) (hd : ∀ j, j < 64 → j ≠ k → f j = xf S j) (hs : ∀ j, j < 64 → j ≠ k → f (64 + j) = xf S (64 + j)) : arr 129 f = arr 129 (xf ⟨S.rs.set k (d, s), m, st⟩) := by
  have hl : k < S.rs.length := by rw [h.len]; exact hk
  refine xf_ext (fun j hj => ?_) (fun j hj => ?_) e2
  · rw [SSt.dep_set _ _ _ _ _ hl]
    by_cases e : k = j
    · subst e; rw [if_pos rfl, e0]
    · rw [if_neg e, hd j hj (Ne.symm e), xf_dep S j hj]; rfl
  · rw [SSt.sin_set _ _ _ _ _ hl]
    by_cases e : k = j
    · subst e; rw [if_pos rfl, e1]
    · rw [if_neg e, hs j hj (Ne.symm e), xf_sin S j hj]; rfl
theorem xf_ent0 {S : SSt} (h : S.Ok) {k : Nat} (hk : k < 64) (h0 : S.dep k = 0) : arr 129 (upd (upd (upd (xf S) k 1) 128 ((S.st : Int) + 1)) (64 + k) ((S.st : Int) + 1)) = arr 129 (xf (S.ent k)) := by
  rw [(SSt.entE_0 hk h0).2]
  refine xf_set h hk 1 (S.st + 1) _ (S.st + 1) ?_ ?_ ?_ (fun j hj e => ?_) (fun j hj e => ?_)
  · rw [upd_ne _ _ (by omega), upd_ne _ _ (by omega), upd_same]; rfl
  · rw [upd_same]; omega
  · rw [upd_ne _ _ (by omega), upd_same]; omega
  · rw [upd_ne _ _ (by omega), upd_ne _ _ (by omega), upd_ne _ _ e]
  · rw [upd_ne _ _ (by omega), upd_ne _ _ (by omega), upd_ne _ _ (by omega)]
theorem xf_entn {S : SSt} (h : S.Ok) {k : Nat} (hk : k < 64) (h0 : S.dep k ≠ 0) (h8 : S.dep k ≠ 8) : arr 129 (upd (xf S) k ((S.dep k : Int) + 1)) = arr 129 (xf (S.ent k)) := by
  rw [(SSt.entE_n hk h0 h8).2]
  refine xf_set h hk (S.dep k + 1) (S.sin k) _ S.st ?_ ?_ ?_ (fun j hj e => ?_) (fun j hj e => ?_)
  · rw [upd_same]; omega
  · rw [upd_ne _ _ (by omega), xf_sin S k hk]
  · rw [upd_ne _ _ (by omega), xf_st]
  · rw [upd_ne _ _ e]
  · rw [upd_ne _ _ (by omega)]
theorem xf_exi1 {S : SSt} (h : S.Ok) {k : Nat} (hk : k < 64) (h1 : S.dep k = 1) : arr 129 (upd (upd (xf S) k 0) (64 + k) 0) = arr 129 (xf (S.exi k)) := by
  rw [(SSt.exiE_1 hk h1).2.1]
  refine xf_set h hk 0 0 _ S.st ?_ ?_ ?_ (fun j hj e => ?_) (fun j hj e => ?_)
  · rw [upd_ne _ _ (by omega), upd_same]; rfl
  · rw [upd_same]; rfl
  · rw [upd_ne _ _ (by omega), upd_ne _ _ (by omega), xf_st]
  · rw [upd_ne _ _ (by omega), upd_ne _ _ e]
  · rw [upd_ne _ _ (by omega), upd_ne _ _ (by omega)]
theorem xf_exin {S : SSt} (h : S.Ok) {k : Nat} (hk : k < 64) (h0 : S.dep k ≠ 0) (h1 : S.dep k ≠ 1) : arr 129 (upd (xf S) k ((S.dep k : Int) - 1)) = arr 129 (xf (S.exi k)) := by
  rw [(SSt.exiE_n hk h0 h1).2.1]
  refine xf_set h hk (S.dep k - 1) (S.sin k) _ S.st ?_ ?_ ?_ (fun j hj e => ?_) (fun j hj e => ?_)
  · rw [upd_same]; omega
  · rw [upd_ne _ _ (by omega), xf_sin S k hk]
  · rw [upd_ne _ _ (by omega), xf_st]
  · rw [upd_ne _ _ e]
  · rw [upd_ne _ _ (by omega)]
/-- Which reader a law means. -/
def rdr (r : Int) : Int := (IntKind.u64.wrap r).tmod 64
theorem rdr_nat (r : Int) : ∃ k : Nat, k < 64 ∧ rdr r = (k : Int) := by
  obtain ⟨k, hk, h⟩ := wrap_mod r 64 (by decide)
  exact ⟨k, by omega, h⟩
/-- A grace and the readers' places. -/
structure InsAt (W : World) (g sp p rb cap n : Nat) (pp bb : Nat → Nat) (xb : Nat) (G : GSt) : Prop where
  at' : GraceAt W g sp p rb cap n pp bb G
  hx : Blk W xb 29 (arr 129 (xf G.S))
  nx : ¬ GF g sp p rb n pp bb G.sc xb
section
variable {W W' : World} {g sp p rb cap n xb : Nat} {pp bb : Nat → Nat} {G : GSt}
theorem InsAt.keeps (h : InsAt W g sp p rb cap n pp bb xb G) (hk : Keeps W W') : InsAt W' g sp p rb cap n pp bb xb G := ⟨h.at'.keeps hk, h.hx.keeps hk, h.nx⟩
/-- The places have changed. -/
theorem InsAt.setX {W1 : World} {X : List Value} {S : SSt} (h : InsAt W g sp p rb cap n pp bb xb G) (hG : GraceAt W1 g sp p rb cap n pp bb { G with S := S }) (hc1 : Chg (· = sp) W W1) (hX : Blk W' xb 29 X) (hC : Chg (· = xb) W1 W') (e : X = arr 129 (xf S)) :
    InsAt W' g sp p rb cap n pp bb xb { G with S := S } ∧ Chg (fun b => b = sp ∨ b = xb) W W' := by
  subst e
  exact ⟨⟨hG.chg hC fun b hb e => h.nx (e ▸ hb), hX, h.nx⟩, (hc1.mono fun _ _ => .inl).trans (hC.mono fun _ _ => .inr)⟩
end
end Go.Proofs.YtefippjakkgjkaaDoor
