/- strings.Join over Text's parts; the parts are the document's. -/
import Derived.Test.YtmmglikbajiepaaDoorIsaW
namespace Go.Proofs.YtmmglikbajiepaaDoor
open Go.RowKit Go.Lib

theorem join_any (bk o c : Nat) (xs : List (List UInt8)) (w : World) (hS : Slc w (.slice (some ⟨bk, o, none⟩) xs.length c) (xs.map fun l => .string (str l))) (hne : 0 < xs.length) (hn : xs.length ≤ 1000) (hl : (join xs [44, 32]).length ≤ 140737488355328) :
    Calls Tryd.prog 32 #[.slice (some ⟨bk, o, none⟩) xs.length c, .string (str [44, 32])] w fun e w' => e = .returned (.string (str (join xs [44, 32]))) ∧ Keeps w w' := by
  have e : (fun x : ByteArray => x.data.toList) ∘ str = id := by funext l; simp [str]
  obtain ⟨p, cp, hv, hlc, hcm, hnn, hcell⟩ := hS
  rw [List.length_map] at hv hlc hcell
  simp only [Value.slice.injEq] at hv
  obtain ⟨rfl, _, rfl⟩ := hv
  have hc2 : ∀ j, j < xs.length → w.cell? ⟨bk, o + j, none⟩ = some (.string (str (xs.getD j []))) := fun j hj => by
    obtain ⟨b', off', hp, h1⟩ := hcell j hj
    simp only [Option.some.injEq, Addr.mk.injEq] at hp
    obtain ⟨rfl, rfl, _⟩ := hp
    rw [h1]
    simp [List.getD_eq_getElem?_getD, hj]
  have hlt := cell_lt (hc2 0 hne)
  have h := Tryd.strings_Join bk o c (xs.map str) (str [44, 32]) w (fun j x hx => by
    obtain ⟨hj, rfl⟩ := List.getElem?_eq_some_iff.1 hx
    rw [List.length_map] at hj
    rw [hc2 j hj]
    simp [List.getD_eq_getElem?_getD, hj]) hlt (by rw [List.length_map]; omega) (by rw [List.length_map]; exact hlc) (by
      rw [List.map_map, e, List.map_id]
      simpa [str] using hl)
  rw [List.length_map, List.map_map, e, List.map_id] at h
  refine h.mono ?_
  rintro e w' ⟨rfl, hb⟩
  refine ⟨?_, hb⟩
  simp [str]
/-- The letters of what is put. -/
def lettersB (u : Bool × Bool × Bool × Bool) (f : Bool) : List UInt8 := (if u.1 then [100] else []) ++ (if u.2.2.1 && f then [111] else []) ++ (if u.2.1 then [115] else []) ++ (if u.2.2.2 then [105] else []) ++ (if u.2.2.1 && !f then [111] else [])
theorem letters_shape {op : Int} (h : classM op ≠ 0) : lettersB (usesM op) (op == 65 || op == 67) = shapeB op := puts_shape h
theorem puts_letters (i : InsS) (u : Bool × Bool × Bool × Bool) (f : Bool) : [] ++ (if u.1 then [[114] ++ itoa i.dst] else []) ++ (if u.2.2.1 && f then [[] ++ itoa i.off] else []) ++ (if u.2.1 then [[114] ++ itoa i.src] else []) ++ (if u.2.2.2 then [[] ++ itoa i.imm] else []) ++ (if u.2.2.1 && !f then [[] ++ itoa i.off] else []) = (lettersB u f).map (partL i) := by
  obtain ⟨a, b, c, d⟩ := u
  cases a <;> cases b <;> cases c <;> cases d <;> cases f <;> rfl
theorem part_len (i : InsS) (hr : errM i = 0) (c : UInt8) : (partL i c).length ≤ 22 := by
  obtain ⟨_, d0, d1, s0, s1, o0, o1, i0, i1⟩ := errM_right hr
  have z1 := itoa_length_le i.dst (by omega) (by omega)
  have z2 := itoa_length_le i.src (by omega) (by omega)
  have z3 := itoa_length_le i.off (by omega) (by omega)
  have z4 := itoa_length_le i.imm (by omega) (by omega)
  unfold partL
  split
  · rw [List.length_cons]; omega
  · split
    · rw [List.length_cons]; omega
    · split <;> omega
theorem joinTail_len (sep : List UInt8) (n : Nat) : ∀ r : List (List UInt8), (∀ l ∈ r, l.length ≤ n) → (joinTail sep r).length ≤ r.length * (sep.length + n)
  | [], _ => by simp [joinTail]
  | x :: r, h => by
    have := joinTail_len sep n r (fun l hl => h l (List.mem_cons_of_mem _ hl))
    have hx := h x List.mem_cons_self
    have e : joinTail sep (x :: r) = sep ++ x ++ joinTail sep r := by simp [joinTail]
    rw [e, List.length_append, List.length_append, List.length_cons, Nat.succ_mul]
    omega
theorem join_len (i : InsS) (hr : errM i = 0) (l : List UInt8) (hl : l.length ≤ 3) : (join (l.map (partL i)) [44, 32]).length ≤ 100 := by
  match l, hl with
  | [], _ => simp [join_nil]
  | c :: l, hl =>
    rw [List.map_cons, join_cons, List.length_append]
    have h1 := part_len i hr c
    have h2 := joinTail_len [44, 32] 22 (l.map (partL i)) (fun x hx => by obtain ⟨d, _, rfl⟩ := List.mem_map.1 hx; exact part_len i hr d)
    rw [List.length_map] at h2
    simp only [List.length_cons, List.length_nil] at h2 hl
    have : l.length * (0 + 1 + 1 + 22) ≤ 2 * 24 := Nat.mul_le_mul (by omega) (by omega)
    omega
end Go.Proofs.YtmmglikbajiepaaDoor
