/- The tops: a verified evaluator of the program (KD). -/
import Derived.Test.YtkfeofhifmebkaaGreatDoorKD0
set_option maxRecDepth 100000
namespace Go.Ev
open Go Go.Proofs
noncomputable section
/-- the words at the address and eight behind it -/
def wordI : IX := ⟨fun args st k fb => match args with
  | [x, y] => match beqSV x (.ptr 1 0) with
    | true => match (match subC locW0.heap st.heap with
        | true => true
        | false => subC locW1.heap st.heap) with
      | true => match beqSV y (.int .i64 (.atom 9)) with
        | true => k (.int .u64 (.atom 400)) st
        | false => match beqSV y (.int .i64 (.atom 19)) with
          | true => k (.int .u64 (.atom 408)) st
          | false => fb ()
      | false => fb ()
    | false => fb ()
  | _ => fb ()⟩
def touchR (tk : Nat) : SV := match tk with
  | 0 => .tup [.int .i64 (.lit 0), .int .i64 (.lit 0)]
  | 1 => .tup [.int .i64 (.atom 56), .int .i64 (.lit 15)]
  | 2 => .tup [.int .i64 (.atom 56), .int .i64 (.lit 14)]
  | _ => .tup [.int .i64 (.lit 0), .int .i64 (.lit 2)]
def touchI (tk : Nat) : IX := ⟨fun args st k fb => match beqSVs args [.ptr 6 0, .int .i64 (.atom 9), .int .i64 (.lit 16)] with
  | true => match subC locM0.heap st.heap with
    | true => k (touchR tk) st
    | false => fb ()
  | false => fb ()⟩
def rowAt : Nat → Nat → List SV
  | _, 0 => []
  | s, n + 1 => .int .u8 (.atom s) :: rowAt (Nat.succ s) n
def peekI : IX := ⟨fun args st k fb => match beqSVs args [.ptr 6 0, .int .i64 (.atom 9), .int .i64 (.lit 16)] with
  | true => match subC locM0.heap st.heap with
    | true => newK st (.vec (rowAt 300 16) 5) fun n st => k (.tup [.slc n 0 (.lit 16) Option.none, .int .i64 (.lit 0)]) st
    | false => fb ()
  | false => fb ()⟩
/-- the memory's block, its pages told anew -/
def pgB (b : AB) : AB := match b with
  | .cells (b :: _ :: _ :: _ :: _ :: l) t => .cells (b :: .int .i64 (.atom 200) :: .int .i64 (.atom 201) :: .int .i64 (.atom 202) :: .int .i64 (.atom 203) :: l) t
  | b => b
/-- a page is brought, gone or bad: with what it answers -/
def pageI (oc : Nat) : IX := ⟨fun args st k fb => match beqSVs args [.ptr 6 0, .int .i64 (.atom 51)] with
  | true => match oc with
    | 0 => match subC locM0.heap st.heap with
      | true => setK st 6 (some (pgB cb32)) fun st => k (.int .i64 (.lit 0)) st
      | false => match subC locM1.heap st.heap with
        | true => setK st 6 (some (pgB cb87)) fun st => k (.int .i64 (.lit 0)) st
        | false => fb ()
    | oc => match (match subC locM0.heap st.heap with
        | true => true
        | false => subC locM1.heap st.heap) with
      | true => k (.int .i64 (.lit (.ofNat oc))) st
      | false => fb ()
  | false => fb ()⟩
def rawT : T AB := setTC .leaf 2990 (some (.cells [.int .u8 (.atom 50)] 5)) fun t => t
def pokeI : IX := ⟨fun args st k fb => match beqSVs args [.ptr 6 0, .int .i64 (.atom 51), .slc 2990 0 (.lit 1) (some 1)] with
  | true => match subC rawT st.heap with
    | true => match subC locM0.heap st.heap with
      | true => setK st 17 (some (.cells (rowAt 210 64) 5)) fun st => k (.int .i64 (.lit 0)) st
      | false => match subC locM1.heap st.heap with
        | true => setK st 16 (some (.cells (rowAt 210 64) 5)) fun st => k (.int .i64 (.lit 0)) st
        | false => fb ()
    | false => fb ()
  | false => fb ()⟩
def awakeI : IX := ⟨fun args st k fb => match args with
  | [] => k (.bool true) st
  | _ => fb ()⟩
def intrC (kind tk oc : Nat) (f : FuncId) : Option IX := match f with
  | 32 => some (afterI cLog)
  | 26 => some wordI
  | 567 => match Nat.ble tk 3 with
    | true => some (touchI tk)
    | false => Option.none
  | 68 => match Nat.beq tk 0 with
    | true => some peekI
    | false => Option.none
  | 105 => match Nat.beq kind 2 with
    | true => some (pageI oc)
    | false => Option.none
  | 107 => match Nat.beq kind 4 with
    | true => some (pageI oc)
    | false => Option.none
  | 106 => match Nat.beq kind 3 with
    | true => some (pageI oc)
    | false => Option.none
  | 108 => match Nat.beq kind 5 with
    | true => some pokeI
    | false => Option.none
  | 12 => some awakeI
  | _ => Option.none
def envC (c : Cs) (kind tk oc : Nat) : Env := ⟨tyT, fnT, glob0f, intrC kind tk oc, cSym c, cConv c, simpleF, cLog⟩
def sfC (c : Cs) (kind tk oc : Nat) : Self := selfN (envC c kind tk oc) 1000000
/-! the code's pieces -/
def hdC : Code → Code
  | .seq a _ => a
  | c => c
def tlC : Code → Code
  | .seq _ b => b
  | c => c
def blC : Code → Code
  | .block _ c => c
  | c => c
def loC : Code → Code
  | .loop c => c
  | c => c
def cpBody : Code := (Tryz.f6.body).getD .skip
def cpAt (n : Nat) : Code := Nat.rec cpBody (fun _ c => tlC c) n
/-- the loop's inside -/
def cpLoop : Code := loC (blC (tlC (hdC (cpAt 10))))
def cpIn : Code := blC (hdC (tlC cpLoop))
def cpRest : Code := tlC (tlC cpIn)
def cpR15 : Code := tlC (tlC cpLoop)
def set14 (a : A) : A := match a with
  | ⟨c0 :: .mk a b c d e f _ h :: l, m⟩ => ⟨c0 :: .mk a b c d e f (.ptr 2991 0) h :: l, m⟩
  | a => a
/-- the bytes of a poke -/
def stepR (kind : Nat) (h : T AB) (k : T AB → St) : St := match kind with
  | 5 => setTK h 2990 (some (.cells [.int .u8 (.atom 50)] 5)) k
  | _ => k h
def stepS (kind : Nat) (x : SInt) (s : St) : St := match s with
  | ⟨h, n⟩ => stepR kind h fun h => setTK h 2991 (some (.cells [.int .i64 (.lit (.ofNat kind)), .int .i64 x, .int .i64 (.lit 0), .int .i64 (.lit 0), .int .u64 (.lit 0), .int .u64 (.lit 0), match kind with | 5 => .slc 2990 0 (.lit 1) (some 1) | _ => .nils] 43)) fun h => ⟨h, n⟩
def mkR : List (Nat × Nat) → T Nat → (T Nat → R) → R
  | [], t, k => k t
  | p :: l, t, k => match p with
    | (a, b) => setTK t a (some b) fun t => mkR l t k
def swapL : List (Nat × Nat) → List (Nat × Nat)
  | [] => []
  | p :: l => match p with
    | (a, b) => (b, a) :: swapL l
def keepF (kb kp : Bool) (i : Nat) : Bool := match Nat.beq i 9 with
  | true => true
  | false => match (match Nat.ble 80 i with
      | true => Nat.ble i 83
      | false => Nat.beq i 35) with
    | true => true
    | false => match isByte i with
      | true => kb
      | false => match Nat.ble 10 i with
        | true => match Nat.ble i 13 with
          | true => kp
          | false => false
        | false => false
def sz6 (t : TypeId) : Nat := match t with
  | 34 => 5
  | _ => 0
def finR (ren : List (Nat × Nat)) (ints : List (SInt × SInt)) (kb kp : Bool) (logs : List (Nat × Nat × Nat)) (aL : A) (sL : St) (a : A) (st : St) : R :=
  mkR ren .leaf fun r => mkR (swapL ren) .leaf fun i => finM ⟨r, i, ints, keepF kb kp, logs⟩ sz6 aL sL a st
end
end Go.Ev
set_option maxRecDepth 100000
namespace Go.Ev
open Go Go.Proofs
noncomputable section
/-- a run at no address: what the pages are is known alone -/
def csF (a : Nat) (ps : List (Option Nat)) : Cs := ⟨false, a, ps, Option.none, Option.none, Option.none, Option.none, Option.none, Option.none, 63, Option.none⟩
def envF (ps : List (Option Nat)) : Env := ⟨tyT, fnT, glob0f, fun _ => Option.none, cSym (csF 0 ps), cConv (csF 0 ps), simpleF, cLog⟩
def sfF (ps : List (Option Nat)) : Self := selfN (envF ps) 100000
def runL (sf : Self) (f : FuncId) (args : List SV) (L : St) (chk : SV → St → Bool) : Bool := isOkB (sf.call f args L fun v st => match chk v st with
  | true => .ok (.bool true, st)
  | false => .err "local")
/-- a page's state, and another's -/
def pst (p s q t : Nat) : List (Option Nat) :=
  let g : Nat → Option Nat := fun i => match Nat.beq i p with
    | true => some s
    | false => match Nat.beq i q with
      | true => some t
      | false => Option.none
  [g 0, g 1, g 2, g 3]
def tVal (tk p : Nat) : SV := match tk with
  | 0 => .tup [.int .i64 (.lit 0), .int .i64 (.lit 0)]
  | 1 => .tup [.int .i64 (.lit (.ofNat p)), .int .i64 (.lit 15)]
  | 2 => .tup [.int .i64 (.lit (.ofNat p)), .int .i64 (.lit 14)]
  | _ => .tup [.int .i64 (.lit 0), .int .i64 (.lit 2)]
def okT (a : Nat) (ps : List (Option Nat)) (tk p : Nat) : Bool := runL (sfA a ps) 567 [.ptr 6 0, .int .i64 (.lit (.ofNat a)), .int .i64 (.lit 16)] locM0 fun v st => match beqSV v (tVal tk p) with
  | true => subC locM0.heap st.heap
  | false => false
def and3 (a b c : Bool) : Bool := match a with
  | true => match b with
    | true => c
    | false => false
  | false => false
def okTA (a : Nat) : Bool := match Nat.ble a 48 with
  | false => okT a [] 3 0
  | true => and3 (okT a (pst (a / 16) 0 (a / 16) 0) 1 (a / 16)) (okT a (pst (a / 16) 2 (a / 16) 2) 2 (a / 16)) (match Nat.beq (a / 16) ((a + 15) / 16) with
    | true => okT a (pst (a / 16) 1 (a / 16) 1) 0 0
    | false => and3 (okT a (pst (a / 16) 1 ((a + 15) / 16) 1) 0 0) (okT a (pst (a / 16) 1 ((a + 15) / 16) 0) 1 ((a + 15) / 16)) (okT a (pst (a / 16) 1 ((a + 15) / 16) 2) 2 ((a + 15) / 16)))
/-- the bytes' row behind a peek -/
def okP (a : Nat) : Bool := runL (sfA a []) 68 [.ptr 6 0, .int .i64 (.lit (.ofNat a)), .int .i64 (.lit 16)] locM0 fun v st => match v with
  | .tup [.slc n 0 (.lit 16) Option.none, x] => match beqSV x (.int .i64 (.lit 0)) with
    | true => match Nat.ble 3000 n with
      | true => match getT st.heap n with
        | some (.vec cs 5) => match beqSVs cs (rowAt (100 + a) 16) with
          | true => subC locM0.heap st.heap
          | false => false
        | _ => false
      | false => false
    | false => false
  | _ => false
/-- what a page's change answers, and what the page is then -/
def pgSpec (kind s : Nat) : Nat × Nat := match kind with
  | 2 => match s with
    | 0 => (0, 1)
    | 1 => (5, 1)
    | s => (14, s)
  | 3 => match s with
    | 2 => (5, 2)
    | _ => (0, 2)
  | _ => match s with
    | 1 => (0, 0)
    | s => (4, s)
def pgF (kind : Nat) : FuncId := match kind with
  | 2 => 105
  | 3 => 106
  | _ => 107
/-- the memory's block with another state of a page -/
def pgL (b : AB) (p s : Nat) : AB := match b with
  | .cells cs t => .cells (cs.set (p + 1) (.int .i64 (.lit (.ofNat s)))) t
  | b => b
def cbM (i : Nat) : AB := match i with
  | 0 => cb32
  | _ => cb87
def locM (i : Nat) : St := match i with
  | 0 => locM0
  | _ => locM1
def heapWith (L : St) (n : Nat) (b : AB) : T AB := setTK L.heap n (some b) fun h => h
def okPg (i kind p s : Nat) : Bool := runL (sfF (pst p s p s)) (pgF kind) [.ptr 6 0, .int .i64 (.lit (.ofNat p))] (locM i) fun v st => match pgSpec kind s with
  | (oc, s') => match beqSV v (.int .i64 (.lit (.ofNat oc))) with
    | true => match oc with
      | 0 => subC (heapWith (locM i) 6 (pgL (cbM i) p s')) st.heap
      | _ => subC (locM i).heap st.heap
    | false => false
def okPgs (i kind : Nat) : Bool := allN 4 fun p => allN 3 fun s => okPg i kind p s
def bytesN (i : Nat) : Nat := match i with
  | 0 => 17
  | _ => 16
def pkL (j : Nat) : AB := .cells ((rowAt 100 64).set j (.int .u8 (.atom 50))) 5
def locK (i : Nat) : St := ⟨heapWith (locM i) 2990 (.cells [.int .u8 (.atom 50)] 5), 3000⟩
def okK (i j : Nat) : Bool := runL (sfF []) 108 [.ptr 6 0, .int .i64 (.lit (.ofNat j)), .slc 2990 0 (.lit 1) (some 1)] (locK i) fun v st => match beqSV v (.int .i64 (.lit 0)) with
  | true => subC (heapWith (locK i) (bytesN i) (pkL j)) st.heap
  | false => false
end
end Go.Ev
