/- The tops: a verified evaluator of the program (KJ). -/
import Derived.Test.YtkfeofhifmebkaaGreatDoorKF
import Derived.Test.YtkfeofhifmebkaaGreatDoorEvD
import Derived.Test.YtkfeofhifmebkaaGreatDoorShelf
import Derived.Lib.Join
namespace Go.Ev
open Go Go.Proofs Go.Lib Go.RowKit Go.Sort

section
variable {ν : Nat → Int} {P : Program} {E : Env} {base : Nat}
theorem sim_below {σ : Sg} {st : St} {w w' : World} (h : Sim P E ν base σ st w) (k : Below w.heap.size w w') : Goes P E ν base σ st w σ st w' := by
  have hk : ∀ (b : Nat) (o : Obj), w.heap[b]? = some o → w'.heap[b]? = some o := fun b o e => by rw [k.block b (Array.getElem?_eq_some_iff.1 e).1]; exact e
  refine ⟨⟨fun _ _ => rfl, Nat.le_refl _, k.size, fun b hb _ => k.block b hb, fun n c b z hn e => .inl ⟨n, c, z, hn, e⟩, k.os, k.tape, k.output⟩, h.fresh, fun n b e => ?_, h.inj, fun g cs e => ?_, Nat.le_trans h.size k.size⟩
  · obtain ⟨bl, z, o, h1, h2, h3, h4⟩ := h.blk n b e
    exact ⟨bl, z, o, h1, h2, hk _ _ h3, h4⟩
  · obtain ⟨h1, C, t, f, h2, h3⟩ := h.glob g cs e
    exact ⟨h1, C, t, f, hk _ _ h2, h3⟩
/-- a contract that makes garbage alone -/
theorem CallLands.below {f : FuncId} {args : List SV} {v : SV} {st : St} (hf : ∀ Args w, (callFunc f Args).run P w = .ok (.enter f Args) w)
    (h : ∀ σ w (Args : Array Value), Sim P E ν base σ st w → RepL ν σ args Args.toList → ∃ V, Rep ν σ v V ∧ Calls P f Args w fun e w' => e = .returned V ∧ Below w.heap.size w w') : CallLands P E ν base f args st v st := by
  refine ⟨hf, fun σ w Args n R hs hA hR => ?_⟩
  obtain ⟨V, h1, h2⟩ := h σ w Args hs hA
  refine callsIn_wide.2 (h2.mono ?_)
  rintro e w' ⟨rfl, hb⟩
  exact hR σ w' V (sim_below hs hb) h1
end

/-! strconv.Itoa -/
def digs : Nat → Nat → List UInt8 → List UInt8
  | 0, _, l => l
  | f + 1, n, l => match Nat.blt n 10 with
    | true => UInt8.ofNat (48 + n) :: l
    | false => digs f (n / 10) (UInt8.ofNat (48 + n % 10) :: l)
theorem digs_eq : ∀ (f n : Nat) (l : List UInt8), n < 10 ^ (f + 1) → digs (f + 1) n l = Lib.decDigits n ++ l := by
  intro f
  induction f with
  | zero =>
    intro n l h
    have h : n < 10 := by simpa using h
    have e : Nat.blt n 10 = true := Nat.ble_eq_true_of_le h
    rw [Lib.decDigits, dif_pos h]
    simp [digs, e]
  | succ f ih =>
    intro n l h
    rw [Lib.decDigits]
    cases e : Nat.blt n 10 with
    | true =>
      have g : n < 10 := Nat.le_of_ble_eq_true e
      rw [dif_pos g]
      simp [digs, e]
    | false =>
      have g : ¬ n < 10 := fun g => by rw [show Nat.blt n 10 = true from Nat.ble_eq_true_of_le g] at e; cases e
      rw [dif_neg g, digs, e]
      dsimp only
      rw [ih _ _ (by rw [Nat.pow_succ] at h; omega)]
      simp
def itoaL : Int → List UInt8
  | .ofNat n => digs 20 n []
  | .negSucc n => 45 :: digs 20 (Nat.succ n) []
theorem itoaL_eq {n : Int} (h0 : -9223372036854775808 ≤ n) (h1 : n ≤ 9223372036854775807) : itoaL n = Lib.itoa n := by
  cases n with
  | ofNat n =>
    have h1 : n ≤ 9223372036854775807 := by have := h1; exact Int.ofNat_le.1 this
    show digs 20 n [] = _
    unfold Lib.itoa
    rw [if_neg (by simp), digs_eq 19 n [] (by omega)]
    simp
  | negSucc n =>
    have h0 : n + 1 ≤ 9223372036854775808 := by omega
    show 45 :: digs 20 (Nat.succ n) [] = _
    unfold Lib.itoa
    rw [if_pos (Int.negSucc_lt_zero n), digs_eq 19 _ [] (by show n + 1 < _; omega)]
    simp
def inI64 : Int → Bool
  | .ofNat n => Nat.ble n 9223372036854775807
  | .negSucc n => Nat.ble (Nat.succ n) 9223372036854775808
theorem inI64_ok {n : Int} (h : inI64 n = true) : -9223372036854775808 ≤ n ∧ n ≤ 9223372036854775807 := by
  cases n with
  | ofNat n =>
    have := Nat.le_of_ble_eq_true h
    exact ⟨by show _ ≤ ((n : Nat) : Int); omega, by show ((n : Nat) : Int) ≤ _; omega⟩
  | negSucc n => have := Nat.le_of_ble_eq_true h; constructor <;> omega
noncomputable def itoaI : IX := ⟨fun args st k fb => match args with
  | [.int .i64 (.lit n)] => match inI64 n with
    | true => k (.str ⟨(itoaL n).toArray⟩) st
    | false => fb ()
  | _ => fb ()⟩
theorem grow_below (w : World) (k : Nat) (os : Array Obj) : Below w.heap.size w (grow (w.drewN k) os) :=
  ⟨rfl, rfl, rfl, by simp [grow], fun b hb => by simp [grow, World.drewN, Array.getElem?_append_left hb]⟩
theorem pow10_laid {E : Env} (hg : E.glob = glob0f) {ν : Nat → Int} {base : Nat} {σ : Sg} {st : St} {w : World} (hs : Sim Tryz.prog E ν base σ st w) : Lib.TabIs Tryz.prog w "internal/strconv.uint64pow10" .u64 Lib.pow10Tab := by
  obtain ⟨_, C, t, f, h2, h3⟩ := hs.glob 2 glob2 (by rw [hg]; rfl)
  have hC : C.toList = Lib.pow10Tab.map fun z => Value.int .u64 z := by
    have e : Lib.pow10Tab.map (fun z => Value.int .u64 z) = [.int .u64 1, .int .u64 10, .int .u64 100, .int .u64 1000, .int .u64 10000, .int .u64 100000, .int .u64 1000000, .int .u64 10000000, .int .u64 100000000, .int .u64 1000000000, .int .u64 10000000000, .int .u64 100000000000, .int .u64 1000000000000, .int .u64 10000000000000, .int .u64 100000000000000, .int .u64 1000000000000000, .int .u64 10000000000000000, .int .u64 100000000000000000, .int .u64 1000000000000000000, .int .u64 10000000000000000000] := by kernel_rfl
    rw [e]
    simp only [glob2, RepL, Rep, SInt.val] at h3
    simpa using h3
  have hgn : Tryz.prog.globalNamed "internal/strconv.uint64pow10" = some 2 := by kernel_rfl
  unfold Lib.TabIs World.var?
  rw [hgn]
  simp only [Option.bind_some, h2]
  rw [← hC]
theorem itoaI_ok {E : Env} (hg : E.glob = glob0f) {ν : Nat → Int} {base : Nat} {args : List SV} {st : St} {k : SV → St → R} {fb : Unit → R} {out} (h : itoaI.run args st k fb = .ok out) :
    (∃ v st', k v st' = .ok out ∧ CallLands Tryz.prog E ν base 84 args st v st') ∨ fb () = .ok out := by
  unfold itoaI at h
  dsimp only at h
  split at h
  · rename_i n
    split at h
    · rename_i hn
      obtain ⟨h0, h1⟩ := inI64_ok hn
      refine .inl ⟨_, st, h, .below Tryz.call84 fun σ w Args hs hA => ?_⟩
      simp only [RepL, Rep] at hA
      obtain ⟨V, Us, e, rfl, rfl⟩ := hA
      have e : Args = #[.int .i64 n] := by rw [← Array.toList_inj, e]; rfl
      subst e
      refine ⟨.string ⟨(itoaL n).toArray⟩, by simp only [Rep], (Tryz.strconv_Itoa n h0 h1 w (pow10_laid hg hs)).mono ?_⟩
      rintro e w' ⟨rfl, k, os, rfl⟩
      exact ⟨by rw [itoaL_eq h0 h1], grow_below w k os⟩
    · exact .inr h
  · exact .inr h

/-! strings.Join -/
def strsN : Nat → List SV → Option (List ByteArray)
  | 0, _ => some []
  | n + 1, l => match l with
    | v :: l => match v with
      | .str s => match strsN n l with
        | some xs => some (s :: xs)
        | Option.none => Option.none
      | _ => Option.none
    | [] => Option.none
theorem strsN_ok {ν : Nat → Int} {σ : Sg} : ∀ {n : Nat} {l : List SV} {xs : List ByteArray} {L : List Value}, strsN n l = some xs → RepL ν σ l L → xs.length = n ∧ ∀ (j : Nat) x, xs[j]? = some x → L[j]? = some (.string x) := by
  intro n
  induction n with
  | zero => intro l xs L h _; cases h; exact ⟨rfl, fun j x e => by simp at e⟩
  | succ n ih =>
    intro l xs L h hL
    simp only [strsN] at h
    split at h
    · split at h
      · split at h
        · rename_i g
          cases h
          simp only [RepL, Rep] at hL
          obtain ⟨V, Us, rfl, rfl, h3⟩ := hL
          obtain ⟨h1, h2⟩ := ih g h3
          refine ⟨by simp [h1], fun j x e => ?_⟩
          cases j with
          | zero => simp at e ⊢; rw [e]
          | succ j => simpa using h2 j x (by simpa using e)
        · cases h
      · cases h
    · cases h
def joinB (xs : List ByteArray) (sep : ByteArray) : List UInt8 := Lib.join (xs.map (·.data.toList)) sep.data.toList
def joinK (k : SV → St → R) (fb : Unit → R) (st : St) (sep : ByteArray) (len : Nat) (cs : List SV) : R := match strsN len cs with
  | some xs => match Nat.ble len 1000 with
    | true => match Nat.ble (joinB xs sep).length 1000000 with
      | true => k (.str ⟨(joinB xs sep).toArray⟩) st
      | false => fb ()
    | false => fb ()
  | Option.none => fb ()
noncomputable def joinI : IX := ⟨fun args st k fb => match args with
  | [.slc n off (.lit (.ofNat len)) _, .str sep] => match getT st.heap n with
    | some (.cells cs _) => joinK k fb st sep len (cs.drop off)
    | some (.vec cs _) => joinK k fb st sep len (cs.drop off)
    | _ => fb ()
  | _ => fb ()⟩
theorem joinI_ok {E : Env} {ν : Nat → Int} {base : Nat} {args : List SV} {st : St} {k : SV → St → R} {fb : Unit → R} {out} (h : joinI.run args st k fb = .ok out) :
    (∃ v st', k v st' = .ok out ∧ CallLands Tryz.prog E ν base 85 args st v st') ∨ fb () = .ok out := by
  unfold joinI at h
  dsimp only at h
  split at h
  case h_2 => exact .inr h
  rename_i n off len cap sep
  have key : ∀ (b : AB) (cs : List SV), getT st.heap n = some b → (∀ σ z o, b.Is Tryz.prog ν σ z o → ∃ C t, o = .cells C t (0, 0) ∧ ∃ L M, C.toList = L ++ M ∧ RepL ν σ cs L) → joinK k fb st sep len (cs.drop off) = .ok out →
      (∃ v st', k v st' = .ok out ∧ CallLands Tryz.prog E ν base 85 [.slc n off (.lit (.ofNat len)) cap, .str sep] st v st') ∨ fb () = .ok out := by
    intro b cs hb hB h
    unfold joinK at h
    split at h
    case h_2 => exact .inr h
    rename_i xs hxs
    split at h
    case h_2 => exact .inr h
    rename_i h1
    split at h
    case h_2 => exact .inr h
    rename_i h2
    have h1 := Nat.le_of_ble_eq_true h1
    have h2 := Nat.le_of_ble_eq_true h2
    refine .inl ⟨_, st, h, .below Tryz.call85 fun σ w Args hs hA => ?_⟩
    simp only [RepL, Rep] at hA
    obtain ⟨V, Us, e, ⟨bk, z, l, c, e1, rfl, e2, e3, e4⟩, V2, Us2, rfl, rfl, rfl⟩ := hA
    have e : Args = #[.slice (some ⟨bk, off, none⟩) l c, .string sep] := by rw [← Array.toList_inj, e]
    subst e
    have e2 : l = len := by simp only [SInt.val] at e2; exact (Int.ofNat.inj e2).symm
    subst e2
    obtain ⟨bl, z', o, g1, g2, g3, g4⟩ := hs.blk n b hb
    rw [e1] at g1; cases g1
    obtain ⟨C, t, rfl, L, M, q1, q2⟩ := hB σ z o g4
    obtain ⟨r1, r2⟩ := strsN_ok hxs (q2.drop off)
    refine ⟨.string ⟨(joinB xs sep).toArray⟩, by simp only [Rep], ?_⟩
    have := Tryz.strings_Join bk off c xs sep w (fun j x hx => ?_) (Array.getElem?_eq_some_iff.1 g3).1 (by omega) (by omega) (Nat.le_trans h2 (by decide))
    · rw [r1] at this; exact this
    · have hL := r2 j x hx
      rw [List.getElem?_drop] at hL
      have hC : C[off + j]? = some (.string x) := by
        rw [← Array.getElem?_toList, q1, List.getElem?_append_left (List.getElem?_eq_some_iff.1 hL).1]
        exact hL
      simp [World.cell?, g3, hC]
  split at h
  · rename_i cs t hb
    exact key _ cs hb (fun σ z o hI => let ⟨C, h1, h2⟩ := hI; ⟨C, t, h1, C.toList, [], by simp, h2⟩) h
  · rename_i cs t hb
    exact key _ cs hb (fun σ z o hI => let ⟨C, L, M, h1, h2, h3, _⟩ := hI; ⟨C, t, h1, L, M, h2, h3⟩) h
  · exact .inr h
end Go.Ev
