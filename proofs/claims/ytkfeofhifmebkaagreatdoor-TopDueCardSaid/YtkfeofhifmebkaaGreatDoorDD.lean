/- The tops: a verified evaluator of the program (DD). -/
import Derived.Test.YtkfeofhifmebkaaGreatDoorPC
import Derived.Test.YtkfeofhifmebkaaGreatDoorKA
set_option maxRecDepth 100000
namespace Go.Ev
open Go Go.Proofs
noncomputable section
/-! TopDue's runs -/
def d8 : C8 := .mk .dead .dead .dead .dead .dead .dead .dead .dead
def mkT' {β : Type} : List (Nat × Nat) → T Nat → (T Nat → β) → β
  | [], t, k => k t
  | p :: l, t, k => match p with
    | (a, b) => setTK t a (some b) fun t => mkT' l t k
def swapP : List (Nat × Nat) → List (Nat × Nat)
  | [] => []
  | p :: l => match p with
    | (a, b) => (b, a) :: swapP l
def szP (t : TypeId) : Nat := match t with
  | 34 => 5
  | _ => 0
def rl (op : BinOp) (k : IntKind) (x y : SInt) (z : RV) : Rl := ⟨op, k, x, k, y, z⟩
def appR (l m : List Rl) : List Rl := match l with
  | [] => m
  | a :: l => a :: appR l m
def rngsD : List Rg := [⟨40, 0, 254⟩, ⟨18, 1, 255⟩, ⟨7, 0, 3⟩, ⟨8, 0, 1⟩, ⟨15, 0, 63⟩, ⟨51, -1, 1073741824⟩]
/-- rules of all phases -/
def rulesD0 : List Rl :=
  [rl .rem .u64 (.atom 5) (.lit 4) (.n (.atom 7)), rl .rem .u64 (.atom 6) (.lit 2) (.n (.atom 8)), rl .rem .i64 (.atom 7) (.lit 2) (.n (.atom 48)), rl .eql .i64 (.atom 48) (.lit 1) (.a 49), rl .and .u64 (.atom 7) (.lit 1) (.n (.atom 48)), rl .neq .u64 (.atom 48) (.lit 0) (.a 49),
   rl .leq .u64 (.atom 9) (.atom 9) (.b true), rl .rem .u64 (.atom 39) (.lit 255) (.n (.atom 40)), rl .add .i64 (.lit 1) (.atom 40) (.n (.atom 18)), rl .add .i64 (.atom 30) (.lit 1) (.n (.atom 31))]
/-- where it is to run: 0 flags below 2, 1 pinned on 0, 2 pinned on 1, 9 not looked at -/
def rulesPc (pc : Nat) : List Rl := match pc with
  | 0 => [rl .geq .i64 (.atom 7) (.lit 2) (.b false), rl .and .u64 (.atom 7) (.lit 2) (.n (.lit 0))]
  | 9 => []
  | _ => [rl .geq .i64 (.atom 7) (.lit 2) (.b true), rl .and .u64 (.atom 7) (.lit 2) (.n (.lit 2))]
def rulesOk (ok : Bool) : List Rl := match ok with
  | true => [rl .eql .u64 (.atom 9) (.lit 18446744073709551615) (.b false)]
  | false => []
def rulesDue (due : Bool) : List Rl := match due with
  | true => [rl .geq .u64 (.atom 19) (.atom 14) (.b true), rl .lss .u64 (.atom 19) (.atom 13) (.b false)]
  | false => [rl .geq .u64 (.atom 19) (.atom 14) (.b false)]
def convsD : List Cv := [⟨.u64, .i64, 3, .atom 5⟩, ⟨.u64, .i64, 4, .atom 6⟩, ⟨.u64, .i64, 38, .atom 39⟩]
def u64A (a : Nat) : SV := .int .u64 (.atom a)
def i64A (a : Nat) : SV := .int .i64 (.atom a)
def i64L (n : Int) : SV := .int .i64 (.lit n)
/-- isa.Check of a move of a number -/
def checkI : IX := ⟨fun args st k fb => match args with
  | [.agg [.int .i64 (.lit op), .int .i64 (.lit d), .int .i64 (.lit s), .int .i64 (.lit o), .int .i64 (.atom i)]] => match (match eqI op 11 with
      | true => match eqI s 0 with
        | true => match eqI o 0 with
          | true => match eqI d 3 with
            | true => Nat.beq i 7
            | false => match eqI d 4 with
              | true => Nat.beq i 8
              | false => false
          | false => false
        | false => false
      | false => false) with
    | true => k (i64L 0) st
    | false => fb ()
  | _ => fb ()⟩
/-- check.Helper of the flags, or of the CPU -/
def helperI : IX := ⟨fun args st k fb => match args with
  | [.int .i64 (.atom i)] => match Nat.beq i 7 with
    | true => k (.tup [.any, .any, .any]) st
    | false => match Nat.beq i 8 with
      | true => k (.tup [.any, .any, .any]) st
      | false => fb ()
  | _ => fb ()⟩
/-- kernel.small -/
def smallI (pc : Nat) : IX := ⟨fun args st k fb => match args with
  | [.agg [.bool b, .int .i64 (.lit p), .int .i64 (.lit q), .int .i64 (.lit r), .int .u64 (.atom i)]] => match (match b with
      | true => false
      | false => match eqI p 0 with
        | true => match eqI q 0 with
          | true => eqI r 0
          | false => false
        | false => false) with
    | true => match Nat.beq i 2 with
      | true => k (i64A 51) st
      | false => match Nat.beq i 8 with
        | true => match pc with
          | 1 => k (i64L 0) st
          | 2 => k (i64L 1) st
          | _ => fb ()
        | false => fb ()
    | false => fb ()
  | _ => fb ()⟩
/-- clock.Deadline, and the document's -/
def dlI (ok : Bool) : IX := ⟨fun args st k fb => match args with
  | [.int .u64 (.atom i), .int .u64 (.atom j), .abool b] => match Nat.beq i 9 with
    | true => match Nat.beq j 2 with
      | true => match Nat.beq b 49 with
        | true => match ok with
          | true => k (.tup [u64A 12, i64L 0]) st
          | false => k (.tup [.int .u64 (.lit 0), i64L 12]) st
        | false => fb ()
      | false => fb ()
    | false => fb ()
  | _ => fb ()⟩
/-- the document's Place: of a deadline that is cut nothing is looked at -/
def prI (ok : Bool) : IX := ⟨fun args st k fb => match args with
  | [.int .u64 (.atom i), .int .u64 x] => match Nat.beq i 9 with
    | true => match ok with
      | true => match beqSI x (.atom 12) with
        | true => k (.tup [.agg [.any, .any, u64A 13, u64A 14], .any]) st
        | false => fb ()
      | false => match beqSI x (.lit 0) with
        | true => k (.tup [.agg [.any, .any, .any, .any], .any]) st
        | false => fb ()
    | false => fb ()
  | _ => fb ()⟩
/-- clock.Add of the tick -/
def addI : IX := ⟨fun args st k fb => match args with
  | [.int .u64 (.atom i), .int .u64 (.atom j)] => match Nat.beq i 20 with
    | true => match Nat.beq j 18 with
      | true => k (.tup [u64A 19, .abool 54]) st
      | false => fb ()
    | false => fb ()
  | _ => fb ()⟩
/-- a row of cells that are not looked at -/
def deadN : Nat → List SV → List SV
  | 0, l => l
  | n + 1, l => .dead :: deadN n l
def bus : List (Nat × SV) := [(61, u64A 71), (62, u64A 72), (63, u64A 73), (64, u64A 74), (65, u64A 75), (66, u64A 76), (67, u64A 77), (68, u64A 78)]
def spotL : List SV := [i64A 44, i64A 15, u64A 13, u64A 14]
def nilsN : Nat → List SV → List SV
  | 0, l => l
  | n + 1, l => .nils :: nilsN n l
def zu8 (l : List SV) : List SV := .int .u64 (.lit 0) :: .int .u64 (.lit 0) :: .int .u64 (.lit 0) :: .int .u64 (.lit 0) :: .int .u64 (.lit 0) :: .int .u64 (.lit 0) :: .int .u64 (.lit 0) :: .int .u64 (.lit 0) :: l
/-- a wheel that holds the timer: its row's place and its busy slots are told by numbers -/
def wheelA (now : Nat) (rb mb : Nat) : AB := .sel (u64A now :: nilsN 512 (zu8 [.map mb, i64L 1])) 1 520 ((60, .slc rb 0 (.lit 1) Option.none) :: bus) 415
/-- a wheel that held it -/
def wheelD (now : Nat) (mb : Nat) : AB := .sel (u64A now :: deadN 512 [.int .u64 (.lit 0), .int .u64 (.lit 0), .int .u64 (.lit 0), .int .u64 (.lit 0), .int .u64 (.lit 0), .int .u64 (.lit 0), .int .u64 (.lit 0), .int .u64 (.lit 0), .map mb, i64L 1]) 1 512 [] 415
def eqD (x y : SV) : Bool := match x with
  | .dead => match y with
    | .dead => true
    | _ => false
  | x => beqSV x y
def eqDs : List SV → List SV → Bool
  | [], [] => true
  | a :: l, b :: m => match eqD a b with
    | true => eqDs l m
    | false => false
  | _, _ => false
def eqBD (x y : AB) : Bool := match x with
  | .sel cs o l ps t => match y with
    | .sel ds o' l' qs u => match Nat.beq t u with
      | true => match Nat.beq o o' with
        | true => match Nat.beq l l' with
          | true => match beqPs ps qs with
            | true => eqDs cs ds
            | false => false
          | false => false
        | false => false
      | false => false
    | _ => false
  | x => beqAB x y
/-- a wheel that never held anything -/
def wheel0 (now : Nat) (mb : Nat) : AB := .cells (u64A now :: nilsN 512 [.int .u64 (.lit 0), .int .u64 (.lit 0), .int .u64 (.lit 0), .int .u64 (.lit 0), .int .u64 (.lit 0), .int .u64 (.lit 0), .int .u64 (.lit 0), .int .u64 (.lit 0), .map mb, i64L 0]) 415
/-- the map's name, of a wheel that never held anything -/
def isW0 (now : Nat) (b : AB) : Option Nat := match b with
  | .cells cs _ => match getL cs 521 with
    | some v => match v with
      | .map mb => match beqAB b (wheel0 now mb) with
        | true => some mb
        | false => Option.none
      | _ => Option.none
    | Option.none => Option.none
  | _ => Option.none
def isWA (now : Nat) (b : AB) : Option (Nat × Nat) := match b with
  | .sel cs _ _ ps _ => match getL cs 521 with
    | some v => match v with
      | .map mb => match lookS 60 ps with
        | some r => match r with
          | .slc rb _ _ _ => match eqBD b (wheelA now rb mb) with
            | true => some (rb, mb)
            | false => Option.none
          | _ => Option.none
        | Option.none => Option.none
      | _ => Option.none
    | Option.none => Option.none
  | _ => Option.none
def isWD (now : Nat) (b : AB) : Option Nat := match b with
  | .sel cs _ _ _ _ => match getL cs 521 with
    | some v => match v with
      | .map mb => match eqBD b (wheelD now mb) with
        | true => some mb
        | false => Option.none
      | _ => Option.none
    | Option.none => Option.none
  | _ => Option.none
def isMap0 (c : Nat) (b : Option AB) : Bool := match b with
  | some b => beqAB b (.map [] c true)
  | Option.none => false
def mapA : AB := .map [⟨i64L 0, .agg [i64A 44, i64A 15, u64A 13, u64A 14, i64L 1], 0⟩] 1 true
/-- (*Wheel).Put -/
def putI : IX := ⟨fun args st k fb => match args with
  | [.ptr wb 0, .int .i64 (.lit id), .int .u64 (.atom a)] => match (match eqI id 0 with
      | true => Nat.beq a 12
      | false => false) with
    | true => match getT st.heap wb with
      | some b => match isW0 9 b with
        | some mb => match isMap0 0 (getT st.heap mb) with
          | true => newK st (.vec [i64L 0] 3) fun rb st => setK st wb (some (wheelA 9 rb mb)) fun st => setK st mb (some mapA) fun st => match st with
            | ⟨h, n⟩ => forceN (n + 1000) fun n => k (.tup [.agg spotL, i64L 0]) ⟨h, n⟩
          | false => fb ()
        | Option.none => fb ()
      | Option.none => fb ()
    | false => fb ()
  | _ => fb ()⟩
def more1000 (st : St) (k : St → R) : R := match st with
  | ⟨h, n⟩ => forceN (n + 1000) fun n => k ⟨h, n⟩
/-- (*Wheel).To, of the wheel of CPU 0 or 1 -/
def toK (due arm : Bool) (now : Nat) (wb : Nat) (b : AB) (st : St) (k : SV → St → R) (fb : Unit → R) : R := match (match arm with
    | true => isWA now b
    | false => Option.none) with
  | some p => match p with
    | (rb, mb) => match (match getT st.heap rb with
        | some r => beqAB r (.vec [i64L 0] 3)
        | Option.none => false) with
      | true => match (match getT st.heap mb with
          | some r => beqAB r mapA
          | Option.none => false) with
        | true => match due with
          | true => newK st (.vec [i64L 0] 3) fun nb st => setK st wb (some (wheelD 19 mb)) fun st => setK st mb (some (.map [] 1 true)) fun st => more1000 st fun st => k (.slc nb 0 (.lit 1) Option.none) st
          | false => setK st wb (some (wheelA 19 rb mb)) fun st => more1000 st fun st => k .nils st
        | false => fb ()
      | false => fb ()
  | Option.none => match isW0 now b with
      | some mb => match (match getT st.heap mb with
          | some r => beqAB r (.map [] 0 true)
          | Option.none => false) with
        | true => setK st wb (some (wheel0 19 mb)) fun st => more1000 st fun st => k .nils st
        | false => fb ()
      | Option.none => fb ()
def nowOf (b : AB) : Nat := match b with
  | .cells (.int .u64 (.atom a) :: _) _ => a
  | .sel (.int .u64 (.atom a) :: _) _ _ _ _ => a
  | _ => 0
def toI (due : Bool) (on : Nat) : IX := ⟨fun args st k fb => match args with
  | [.ptr wb 0, .int .u64 (.atom a)] => match Nat.beq a 19 with
    | true => match getT st.heap wb with
      | some b => match (match Nat.beq (nowOf b) 10 with
          | true => true
          | false => Nat.beq (nowOf b) 11) with
        | true => toK due (Nat.beq (nowOf b) (10 + on)) (nowOf b) wb b st k fb
        | false => fb ()
      | Option.none => fb ()
    | false => fb ()
  | _ => fb ()⟩
/-- so, of wheels that hold nothing -/
def toE (now : Nat) (wb : Nat) (b : AB) (st : St) (k : SV → St → R) (fb : Unit → R) : R := match isWD now b with
    | some mb => match (match getT st.heap mb with
          | some r => beqAB r (.map [] 1 true)
          | Option.none => false) with
        | true => setK st wb (some (wheelD 19 mb)) fun st => more1000 st fun st => k .nils st
        | false => fb ()
    | Option.none => match isW0 now b with
      | some mb => match (match getT st.heap mb with
          | some r => beqAB r (.map [] 0 true)
          | Option.none => false) with
        | true => setK st wb (some (wheel0 19 mb)) fun st => more1000 st fun st => k .nils st
        | false => fb ()
      | Option.none => fb ()
def toI2 : IX := ⟨fun args st k fb => match args with
  | [.ptr wb 0, .int .u64 (.atom a)] => match Nat.beq a 19 with
    | true => match getT st.heap wb with
      | some b => match (match Nat.beq (nowOf b) 10 with
          | true => true
          | false => Nat.beq (nowOf b) 11) with
        | true => toE (nowOf b) wb b st k fb
        | false => fb ()
      | Option.none => fb ()
    | false => fb ()
  | _ => fb ()⟩
/-- to a tick that is shown already -/
def toI9 : IX := ⟨fun args st k fb => match args with
  | [.ptr wb 0, .int .u64 (.atom a)] => match Nat.beq a 9 with
    | true => match getT st.heap wb with
      | some b => match isW0 9 b with
        | some _ => more1000 st fun st => k .nils st
        | Option.none => match isWA 9 b with
          | some _ => more1000 st fun st => k .nils st
          | Option.none => fb ()
      | Option.none => fb ()
    | false => fb ()
  | _ => fb ()⟩
/-- equality of cells, slices of any length among them -/
def eqS2 (x y : SV) : Bool := match x with
  | .slc n o l c => match y with
    | .slc m p l' d => match Nat.beq n m with
      | true => match Nat.beq o p with
        | true => match beqSI l l' with
          | true => beqON c d
          | false => false
        | false => false
      | false => false
    | _ => false
  | x => beqSV x y
def eqS2s : List SV → List SV → Bool
  | [], [] => true
  | a :: l, b :: m => match eqS2 a b with
    | true => eqS2s l m
    | false => false
  | _, _ => false
def eqB2 (x y : AB) : Bool := match x with
  | .cells cs t => match y with
    | .cells ds u => match Nat.beq t u with
      | true => eqS2s cs ds
      | false => false
    | _ => false
  | .vec cs t => match y with
    | .vec ds u => match Nat.beq t u with
      | true => eqS2s cs ds
      | false => false
    | _ => false
  | _ => false
def sameAt : List (Nat × AB) → St → Bool
  | [], _ => true
  | p :: l, st => match p with
    | (n, b) => match getT st.heap n with
      | some c => match eqB2 b c with
        | true => sameAt l st
        | false => false
      | Option.none => false
/-- the classes of the ticks as a program's number -/
def clR (lo hi : Int) : List Rl := match eqI lo hi with
  | true => [rl .eql .i64 (.atom 51) (.lit lo) (.b true)]
  | false => []
def clE (lo hi : Int) : Env := ⟨tyT, fnT, glob0f, intr2, rSym (clR lo hi) [⟨51, lo, hi⟩, ⟨7, 0, 3⟩, ⟨8, 0, 1⟩], fun _ _ _ => Option.none, simpleF, fun _ _ => Option.none⟩
def clS (lo hi : Int) : Self := selfN (clE lo hi) 100000
def progV (v : SV) : Bool := match v with
  | .tup [.agg [a, b], c] => match one1 a with
    | true => match one1 b with
      | true => one1 c
      | false => false
    | false => false
  | _ => false
def progC (lo hi : Int) (args : List SV) (l : List (Nat × AB)) (sL : St) : Bool := isOkB ((clS lo hi).call 439 args sL fun v st => match progV v with
  | true => match sameAt l st with
    | true => match Nat.ble st.next (sL.next + 1000) with
      | true => .ok (.bool true, st)
      | false => .err "prog next"
    | false => .err "prog heap"
  | false => .err "prog value")
def prog5 (args : List SV) (l : List (Nat × AB)) (sL : St) : Bool := match progC (-1) (-1) args l sL with
  | true => match progC 0 0 args l sL with
    | true => match progC 1 1 args l sL with
      | true => match progC 2 15 args l sL with
        | true => progC 16 1073741824 args l sL
        | false => false
      | false => false
    | false => false
  | false => false
/-- those blocks of a state -/
def partK (h : T AB) : List Nat → T AB → List (Nat × AB) → (T AB → List (Nat × AB) → R) → (Unit → R) → R
  | [], t, l, k, _ => k t l
  | n :: ns, t, l, k, fb => match getT h n with
    | some b => setTK t n (some b) fun t => partK h ns t ((n, b) :: l) k fb
    | Option.none => fb ()
def ptrOf (o : Option SV) : Nat := match o with
  | some v => match v with
    | .ptr n _ => n
    | .slc n _ _ _ => n
    | _ => 0
  | Option.none => 0
def cellsOfB (b : Option AB) : List SV := match b with
  | some (.cells cs _) => cs
  | some (.vec cs _) => cs
  | _ => []
/-- (*Kernel).Prog of the ticks: the five ways -/
def progI : IX := ⟨fun args st k fb => match args with
  | [.ptr kb _, .int .i64 (.atom i)] => match Nat.beq i 51 with
    | true => match st with
      | ⟨h, nx⟩ => forceN (ptrOf (getL (cellsOfB (getT h kb)) 2)) fun p0 => forceN (ptrOf (getL (cellsOfB (getT h kb)) 3)) fun p1 => forceN (ptrOf (getL (cellsOfB (getT h p0)) 0)) fun c0 => forceN (ptrOf (getL (cellsOfB (getT h p1)) 0)) fun c1 =>
        partK h [kb, p0, p1, c0, c1] .leaf [] (fun t l => match prog5 args l ⟨t, nx⟩ with
          | true => forceN (nx + 1000) fun n => k (.tup [.agg [.any, .any], .any]) ⟨h, n⟩
          | false => fb ()) fb
    | false => fb ()
  | _ => fb ()⟩
/-- (*Log).After, of a log whose beginning is told by numbers -/
def afterN (la : Nat → Nat → Option Nat) (a0 a : Nat) : Nat → Nat → Option Nat
  | 0, _ => Option.none
  | n + 1, j => match (match la a0 j with
      | some b => Nat.beq a b
      | Option.none => false) with
    | true => some j
    | false => afterN la a0 a n (Nat.succ j)
def afterD : IX := ⟨fun args st k fb => match args with
  | [.ptr kb off, .int .i64 n] => match getT st.heap kb with
    | some (.cells cs0 _) => match getL cs0 off with
      | some (.slc nl 0 (.atom L) Option.none) => match getT st.heap nl with
        | some (.log a0 cs 34) => match rLog a0 (lenL cs / 5) with
          | Option.none => .err "after length"
          | some L' => match Nat.beq L L' with
            | false => .err "after length"
            | true => match evShape cs with
              | false => .err "after events"
              | true => match Nat.beq (lenL cs / 5 * 5) (lenL cs) with
                | false => .err "after cells"
                | true => match n with
                  | .lit (.ofNat 0) => match st with
                    | ⟨h, m⟩ => forceN (Nat.succ m) fun m' => k (.slc m 0 (.atom L) Option.none) ⟨h, m'⟩
                  | .atom a => match afterN rLog a0 a 20 0 with
                    | some j => match dropL cs (5 * j) with
                      | [] => .err "after nothing"
                      | cs => newK st (.vec cs 34) fun m st => forceN (lenL cs / 5) fun l => k (.slc m 0 (.lit (.ofNat l)) Option.none) st
                    | Option.none => .err "after place"
                  | _ => .err "after place"
        | _ => fb ()
      | _ => fb ()
    | _ => fb ()
  | _ => fb ()⟩
def intrD (pc : Nat) (ok : Bool) (f : FuncId) : Option IX := match f with
  | 63 => some checkI
  | 294 => some helperI
  | 364 => some (smallI pc)
  | 498 => some (dlI ok)
  | 22 => some (dlI ok)
  | 23 => some (prI ok)
  | 576 => match ok with
    | true => some putI
    | false => Option.none
  | 272 => some toI9
  | 439 => some progI
  | f => intr2 f
def envD (pc : Nat) (ok : Bool) : Env := ⟨tyT, fnT, glob0f, intrD pc ok, rSym (appR (rulesPc pc) (appR (rulesOk ok) rulesD0)) rngsD, rConv convsD rngsD, simpleF, rLog⟩
def sfD (pc : Nat) (ok : Bool) : Self := selfN (envD pc ok) 1000000
/-- the rounds -/
def intrR (due : Bool) (on : Nat) (f : FuncId) : Option IX := match f with
  | 190 => some addI
  | 272 => some (toI due on)
  | 32 => some afterD
  | f => intr2 f
def envR (due : Bool) (on : Nat) : Env := ⟨tyT, fnT, glob0f, intrR due on, rSym (appR (rulesDue due) rulesD0) rngsD, rConv convsD rngsD, simpleF, rLog⟩
def sfR (due : Bool) (on : Nat) : Self := selfN (envR due on) 1000000
/-- the rounds without a timer -/
def intrQ (f : FuncId) : Option IX := match f with
  | 190 => some addI
  | 272 => some toI2
  | 32 => some afterD
  | f => intr2 f
def envQ : Env := ⟨tyT, fnT, glob0f, intrQ, rSym rulesD0 rngsD, rConv convsD rngsD, simpleF, rLog⟩
def sfQ : Self := selfN envQ 1000000
def hdP : Code → Code
  | .seq a _ => a
  | c => c
def tlP : Code → Code
  | .seq _ b => b
  | c => c
def blP : Code → Code
  | .block _ c => c
  | c => c
def loP : Code → Code
  | .loop c => c
  | c => c
def ddBody : Code := (Tryz.f5.body).getD .skip
def ddTl (n : Nat) : Code := Nat.rec ddBody (fun _ c => tlP c) n
def ddAt (n : Nat) : Code := hdP (ddTl n)
/-- the loop's body, and what is in it -/
def ddLoop : Code := loP (blP (tlP (ddAt 13)))
def ddIn : Code := blP (hdP (tlP ddLoop))
def dd18 : Code := hdP ddLoop
def dd20 : Code := hdP ddIn
def dd21 : Code := hdP (hdP (tlP ddIn))
def ddC21 : Code := tlP (hdP (tlP ddIn))
def ddRest : Code := tlP (tlP ddIn)
def dd19 : Code := tlP (tlP ddLoop)
def opsD : Code → List Oper
  | .region _ ops _ => ops.toList
  | _ => []
def dOps21 : List Oper := opsD dd21
def dOps21d : List Oper := dropL dOps21 6
def dRest : List Code := [ddC21, ddRest, dd19]
def dPro : List Code := [ddAt 5, ddAt 6, ddAt 7, ddAt 8, ddAt 9, ddAt 10, ddAt 11, ddAt 12, hdP (ddAt 13)]
def keepD (kd : Nat) (i : Nat) : Bool := match memN i [2, 9, 13, 14, 15, 35, 43, 44, 60, 61, 62, 63, 64, 65, 66, 67, 68, 71, 72, 73, 74, 75, 76, 77, 78, 80, 81, 82, 83] with
  | true => true
  | false => match kd with
    | 0 => memN i [7, 8]
    | 1 => memN i [7, 8, 11]
    | _ => memN i [7, 8, 10]
def finD (ren : List (Nat × Nat)) (ints : List (SInt × SInt)) (kd : Nat) (logs : List (Nat × List SV × Nat)) (aL : A) (sL : St) (a : A) (st : St) : R :=
  mkT' ren .leaf fun r => mkT' (swapP ren) .leaf fun i => finM ⟨r, i, ints, keepD kd, logs⟩ szP aL sL a st
def at2 (n m : Nat) : SInt × SInt := (.atom n, .atom m)
def setD0 : List (SInt × SInt) := [(.lit 13, .atom 5000), at2 9 20, at2 9 10, at2 9 11, (.lit 0, .atom 30), (.lit 0, .atom 43)]
def setD1 : List (SInt × SInt) := [(.lit 13, .atom 5000), at2 9 20, at2 9 10, at2 9 11, (.lit 0, .atom 30), at2 8 43, (.atom 8, .lit 0)]
def setD2 : List (SInt × SInt) := [(.lit 13, .atom 5000), at2 9 20, at2 9 10, at2 9 11, (.lit 0, .atom 30), at2 8 43, (.atom 8, .lit 1)]
/-- behind a round on a CPU: n events more -/
def roundD (c n : Nat) : List (SInt × SInt) := [at2 19 20, at2 19 (10 + c), at2 31 30, at2 (5000 + n) 5000]
def db0 : AB := (.cells [.ptr 2 0] 82)
def db1 : AB := (.vec [qi 27, qi 7, qi 1, qz, qz, qi 11, qi 1, qz, qz, qz, qi 11, qi 2, qz, qz, qi 5, qi 72, qz, qz, qz, qi 3, qi 27, qi 6, qz, qz, qz, qi 27, qi 1, qi 6, qz, qz, qi 72, qz, qz, qz, qi 6, qi 27, qi 1, qi 6, qz, qz, qi 11, qi 2, qz, qz, qz, qi 72, qz, qz, qz, qi 7, qi 27, qi 1, qi 6, qz, qz, qi 27, qi 2, qi 7, qz, qz, qi 11, qi 3, qz, qz, .int .i64 (.atom 7), qi 11, qi 4, qz, qz, .int .i64 (.atom 8), qi 72, qz, qz, qz, qi 8, qi 73, qz, qz, qz, qz] 46)
def db2 : AB := (.cells [.int .u64 (.atom 9)] 148)
def db3 : AB := (.vec [.int .u64 (.atom 9), qz, qi 7, qz, qu, .int .u64 (.atom 9), qz, qi 9, qz, qu] 34)
def db4 : AB := (.cells [qu, qu] 119)
def db5 : AB := (.vec [.ptr 37 0, .ptr 38 0] 304)
def db6 : AB := (.cells [qz, qz, qz, qz, qz, qz, qz, qz, qz, qz, qz, qz, qz, qz, qz, qz, qz, qz, qz, qz, qz, qz, qz, qz, qz, qz, qz, qz, qz, qz, qz, qz, qz, qz, qz, qz, qz, qz, qz, qz, qz, qz, qz, qz, qz, qz, qz, qz, qz, qz, qz, qz, qz, qz, qz, qz, qz, qz, qz, qz, qz, qz, qz, qz, qz, qz, qz, qz, qz, qz, qz, qz, qz, qz, qz, qz, qz, qz, qz, qz, qz, qz, qz, qz, qz, qz, qz, qz, qz, qz, qz, qz, qz, qz, qz, qz, qz, qz, qz, qz, qz, qz, qz, qz, qz, qz, qz, qz, qz, qz, qz, qz, qz, qz, qz, qz, qz, qz, qz, qz, qz, qz, qz, qz, qz, qz, qz, qz, qz, qz, qz, qz, qz, qz, qz, qz, qz, qz, qz, qz, qz, qz, qz, qz, qz, qz, qz, qz, qz, qz, qz, qz, qz, qz, qz, qz, qz, qz, qz, qz, qz, qz, qz, qz, qz, qz, qz, qz, qz, qz, qz, qz, qz, qz, qz, qz, qz, qz, qz, qz, qz, qz, qz, qz, qz, qz, qz, qz, qz, qz, qz, qz, qz, qz, qz, qz, qz, qz, qz, qz, qz, qz, qz, qz, qz, qz, qz, qz, qz, qz, qz, qz, qz, qz, qz, qz, qz, qz, qz, qz, qz, qz, qz, qz, qz, qz, qz, qz, qz, qz, qz, qz, qz, qz, qz, qz, qz, qz, qz, qz, qz, qz, qz, qz, qz, qz, qz, qz, qz, qz, qz, qz, qz, qz, qz, qz] 3)
def db7 : AB := (.cells [qz, qz, qz, qz, qz, qz, qz, qz, qz, qz, qz, qz, qz, qz, qz, qz, qz, qz, qz, qz, qz, qz, qz, qz, qz, qz, qz, qz, qz, qz, qz, qz, qz, qz, qz, qz, qz, qz, qz, qz, qz, qz, qz, qz, qz, qz, qz, qz, qz, qz, qz, qz, qz, qz, qz, qz, qz, qz, qz, qz, qz, qz, qz, qz, qz, qz, qz, qz, qz, qz, qz, qz, qz, qz, qz, qz, qz, qz, qz, qz, qz, qz, qz, qz, qz, qz, qz, qz, qz, qz, qz, qz, qz, qz, qz, qz, qz, qz, qz, qz, qz, qz, qz, qz, qz, qz, qz, qz, qz, qz, qz, qz, qz, qz, qz, qz, qz, qz, qz, qz, qz, qz, qz, qz, qz, qz, qz, qz, qu, qz] 263)
def db8 : AB := (.cells (.int .u64 (.atom 9) :: nilsN 512 [qu, qu, qu, qu, qu, qu, qu, qu, .map 49, qz]) 415)
def db9 : AB := (.cells [qz, qz, qz, qz, qz, qz, qz, qz, qz, qz, qz, qz, qz, qz, qz, qz, qz, qz, qz, qz, qz, qz, qz, qz, qz, qz, qz, qz, qz, qz, qz, qz, qz, qz, qz, qz, qz, qz, qz, qz, qz, qz, qz, qz, qz, qz, qz, qz, qz, qz, qz, qz, qz, qz, qz, qz, qz, qz, qz, qz, qz, qz, qz, qz, qz, qz, qz, qz, qz, qz, qz, qz, qz, qz, qz, qz, qz, qz, qz, qz, qz, qz, qz, qz, qz, qz, qz, qz, qz, qz, qz, qz, qz, qz, qz, qz, qz, qz, qz, qz, qz, qz, qz, qz, qz, qz, qz, qz, qz, qz, qz, qz, qz, qz, qz, qz, qz, qz, qz, qz, qz, qz, qz, qz, qz, qz, qz, qz] 335)
def db10 : AB := (.cells [.ptr 23 0, .ptr 24 0, .nilp, qz, qz, qz] 266)
def db11 : AB := (.cells [qi 1, qi 1, .map 30] 535)
def db12 : AB := (.vec [.ptr 45 0, .ptr 46 0] 331)
def db13 : AB := (.map [] 0 true)
def db14 : AB := (.cells [.slc 53 0 (.lit 64) (some 64), qz, qz] 417)
def db15 : AB := (.cells [.slc 15 0 (.lit 2) (some 2), qz, qz, qz, qz, qz, qz, qz, qz, qz, qz, qz, qz, qz, qz, qz, qz] 191)
def db16 : AB := (.cells [.ptr 20 0, .ptr 21 0, qf, qf, qz, qz, qf, qf, qz, qz, qf, qf, qz, qz, qf, qf, qz, qz, qf, qf, qz, qz, qf, qf, qz, qz, qf, qf, qz, qz, qf, qf, qz, qz, qf, qf, qz, qz, qf, qf, qz, qz, qf, qf, qz, qz, qf, qf, qz, qz, qf, qf, qz, qz, qf, qf, qz, qz, qf, qf, qz, qz, qf, qf, qz, qz, qf, qf, qz, qz, qf, qf, qz, qz, qf, qf, qz, qz, qf, qf, qz, qz, qf, qf, qz, qz, qf, qf, qz, qz, qf, qf, qz, qz, qf, qf, qz, qz, qf, qf, qz, qz, qf, qf, qz, qz, qf, qf, qz, qz, qf, qf, qz, qz, qf, qf, qz, qz, qf, qf, qz, qz, qf, qf, qz, qz, qf, qf, qz, qz, qf, qf, qz, qz, qf, qf, qz, qz, qf, qf, qz, qz, qf, qf, qz, qz, qf, qf, qz, qz, qf, qf, qz, qz, qf, qf, qz, qz, qf, qf, qz, qz, qf, qf, qz, qz, qf, qf, qz, qz, qf, qf, qz, qz, qf, qf, qz, qz, qf, qf, qz, qz, qf, qf, qz, qz, qf, qf, qz, qz, qf, qf, qz, qz, qf, qf, qz, qz, qf, qf, qz, qz, qf, qf, qz, qz, qf, qf, qz, qz, qf, qf, qz, qz, qf, qf, qz, qz, qf, qf, qz, qz, qf, qf, qz, qz, qf, qf, qz, qz, qf, qf, qz, qz, qf, qf, qz, qz, qf, qf, qz, qz, qf, qf, qz, qz, qf, qf, qz, qz, qf, qf, qz, qz, qf, qf, qz, qz, qf, qf, qz, qz, qf, qf, qz, qz, qf, qf, qz, qz, qf, qf, qz, qz, qf, qf, qz, qz, qf, qf, qz, qz, qf, qf, qz, qz, qf, qf, qz, qz, qf, qf, qz, qz, qf, qf, qz, qz, qf, qf, qz, qz, qf, qf, qz, qz, qf, qf, qz, qz, qf, qf, qz, qz, qf, qf, qz, qz, qf, qf, qz, qz, qf, qf, qz, qz, qf, qf, qz, qz, qf, qf, qz, qz, qf, qf, qz, qz, qf, qf, qz, qz, qf, qf, qz, qz, qf, qf, qz, qz, qf, qf, qz, qz, qf, qf, qz, qz, qf, qf, qz, qz, qf, qf, qz, qz, qf, qf, qz, qz, qf, qf, qz, qz, qf, qf, qz, qz, qf, qf, qz, qz, qf, qf, qz, qz, qf, qf, qz, qz, qf, qf, qz, qz, qf, qf, qz, qz, qf, qf, qz, qz, qf, qf, qz, qz, qf, qf, qz, qz, qf, qf, qz, qz, qf, qf, qz, qz, qf, qf, qz, qz, qf, qf, qz, qz, qf, qf, qz, qz, qf, qf, qz, qz, qf, qf, qz, qz, qf, qf, qz, qz, qf, qf, qz, qz, qf, qf, qz, qz, qf, qf, qz, qz, qf, qf, qz, qz, qf, qf, qz, qz, qf, qf, qz, qz, qf, qf, qz, qz, qf, qf, qz, qz, qf, qf, qz, qz, qf, qf, qz, qz, qf, qf, qz, qz, qf, qf, qz, qz, qf, qf, qz, qz, qf, qf, qz, qz, qf, qf, qz, qz, qf, qf, qz, qz, qf, qf, qz, qz, qf, qf, qz, qz, qf, qf, qz, qz, qf, qf, qz, qz, qf, qf, qz, qz, qf, qf, qz, qz, qf, qf, qz, qz, qf, qf, qz, qz, qf, qf, qz, qz, qf, qf, qz, qz, qf, qf, qz, qz, qf, qf, qz, qz, qf, qf, qz, qz, qf, qf, qz, qz, qf, qf, qz, qz, qf, qf, qz, qz, qf, qf, qz, qz, qf, qf, qz, qz, qf, qf, qz, qz, qf, qf, qz, qz, qf, qf, qz, qz, qf, qf, qz, qz, qf, qf, qz, qz, qf, qf, qz, qz, qf, qf, qz, qz, qf, qf, qz, qz, qf, qf, qz, qz, qf, qf, qz, qz, qf, qf, qz, qz, qf, qf, qz, qz, qf, qf, qz, qz, qf, qf, qz, qz, qf, qf, qz, qz, qf, qf, qz, qz, qf, qf, qz, qz, qf, qf, qz, qz, qf, qf, qz, qz, qf, qf, qz, qz, qf, qf, qz, qz, qf, qf, qz, qz, qf, qf, qz, qz, qf, qf, qz, qz, qf, qf, qz, qz, qf, qf, qz, qz, qf, qf, qz, qz, qf, qf, qz, qz, qf, qf, qz, qz, qf, qf, qz, qz, qf, qf, qz, qz, qf, qf, qz, qz, qf, qf, qz, qz, qf, qf, qz, qz, qf, qf, qz, qz, qf, qf, qz, qz, qf, qf, qz, qz, qf, qf, qz, qz, qf, qf, qz, qz, qf, qf, qz, qz, qf, qf, qz, qz, qf, qf, qz, qz, qf, qf, qz, qz, qf, qf, qz, qz, qf, qf, qz, qz, qf, qf, qz, qz, qf, qf, qz, qz, qf, qf, qz, qz, qf, qf, qz, qz, qf, qf, qz, qz, qf, qf, qz, qz, qf, qf, qz, qz, qf, qf, qz, qz, qf, qf, qz, qz, qf, qf, qz, qz, qf, qf, qz, qz, qf, qf, qz, qz, qf, qf, qz, qz, qf, qf, qz, qz, qf, qf, qz, qz, qf, qf, qz, qz, qf, qf, qz, qz, qf, qf, qz, qz, qf, qf, qz, qz, qf, qf, qz, qz, qf, qf, qz, qz, qf, qf, qz, qz, qf, qf, qz, qz, qf, qf, qz, qz, qf, qf, qz, qz, qf, qf, qz, qz, qf, qf, qz, qz, qf, qf, qz, qz, qf, qf, qz, qz, qf, qf, qz, qz, qf, qf, qz, qz, qf, qf, qz, qz, qf, qf, qz, qz, qf, qf, qz, qz, qf, qf, qz, qz, qf, qf, qz, qz, qf, qf, qz, qz, qf, qf, qz, qz, qf, qf, qz, qz, qf, qf, qz, qz, qf, qf, qz, qz, qf, qf, qz, qz, qf, qf, qz, qz, qf, qf, qz, qz, qf, qf, qz, qz, qf, qf, qz, qz, qf, qf, qz, qz, qf, qf, qz, qz, qf, qf, qz, qz, qf, qf, qz, qz, qf, qf, qz, qz, qf, qf, qz, qz, qf, qf, qz, qz, qf, qf, qz, qz, qf, qf, qz, qz, qf, qf, qz, qz, qf, qf, qz, qz, qf, qf, qz, qz, qf, qf, qz, qz, qf, qf, qz, qz, qf, qf, qz, qz, qf, qf, qz, qz, qf, qf, qz, qz, qf, qf, qz, qz, qf, qf, qz, qz, qf, qf, qz, qz, qf, qf, qz, qz] 248)
def db17 : AB := (.cells [.slc 28 0 (.lit 2) (some 2), .int .u64 (.lit 1), .int .u64 (.lit 2)] 500)
def db18 : AB := (.vec [.ptr 41 0, .ptr 42 0] 304)
def db19 : AB := (.cells [.slc 51 0 (.lit 256) (some 256), qz, qz] 389)
def db20 : AB := (.cells [qi 8, .map 27] 269)
def db21 : AB := (.cells [.slc 32 0 (.lit 2) Option.none] 325)
def db22 : AB := (.cells [.slc 47 0 (.lit 256) (some 256), qz, qz] 389)
def db23 : AB := (.cells [.nils, .nils, .nils, .nils, .nils, .nils, .nils, .slc 36 0 (.lit 1) Option.none] 589)
def db24 : AB := (.cells [.slc 55 0 (.lit 64) (some 64), qz, qz] 417)
def db25 : AB := (.cells [.ptr 3 0, .ptr 4 0, .nilp, .nilp, .nilp, .nilp, .nilp, .nilp, .nilp, .nilp, .nilp, .nilp, .nilp, .nilp, .nilp, .nilp, .nilp, .nilp, .ptr 5 0, .nilm, .ptr 6 0, .slc 7 0 (.lit 2) Option.none, qz, .nilp, .nilp, .nilp, .nilp, .nilp, .nilp, .nilp, .nilp, .nilp, .nilp, .nilp, .nilp, .nilp, .nilp, .nilp, .nilp, .nilp, .nilp, .nilp, .nilp, .nilp, .nilp, .nilp, .nilp, .nilp, .nilp, .nilp, .nilp, .nilp, .nilp, .nilp, .nilp, .nils, qi 2] 99)
def db26 : AB := (.cells [qi 2, .ptr 8 0, qf, .nilp, qf, .nilp, qf, .nilp, qf, .ptr 9 0, .ptr 10 0, .ptr 11 0, .ptr 12 0, .ptr 13 0, .map 14] 177)
def db27 : AB := (.cells [qi 1, qi 1, qi 1, .ptr 17 0, .ptr 18 0, .ptr 19 0, qf] 425)
def db28 : AB := (.cells [qb, qb, qb, qb, qb, qb, qb, qb, qb, qb, qb, qb, qb, qb, qb, qb] 5)
def db29 : AB := (.vec [.ptr 39 0, .ptr 40 0] 326)
def db30 : AB := (.cells [.slc 34 0 (.lit 2) Option.none, qz] 330)
def db31 : AB := (.cells (.int .u64 (.atom 9) :: nilsN 512 [qu, qu, qu, qu, qu, qu, qu, qu, .map 50, qz]) 415)
def db32 : AB := (.cells [.ptr 25 0, .ptr 26 0, .nilp, qz, qz, qz] 266)
def db33 : AB := (.cells [.slc 31 0 (.lit 2) Option.none, qz, qz, qz, qz, qz, qz, qz, qz, qz, qz, qz, qz, qz, qz, qz, qz, qz, qz, qz, qz, qz, qz, qz, qz, qz, qz, qz, qz, qz, qz, qz, qz, qz, qz, qz, qz, qz, qz, qz, qz, qz, qz, qz, qz, qz, qz, qz, qz, qz, qz, qz, qz, qz, qz, qz, qz, qz, qz, qz, qz, qz, qz, qz, qz, qz, qz, qz, qz, qz, qz, qz, qz, qz, qz, qz, qz, qz, qz, qz, qz, qz, qz, qz, qz, qz, qz, qz, qz, qz, qz, qz, qz, qz, qz, qz, qz, qz, qz, qz, qz, qz, qz, qz, qz, qz, qz, qz, qz, qz, qz, qz, qz, qz, qz, qz, qz, qz, qz, qz, qz, qz, qz, qz, qz, qz, qz, qz, qz, qz, qz, qz, qz, qz, qz, qz, qz, qz, qz, qz, qz, qz, qz, qz, qz, qz, qz, qz, qz, qz, qz, qz, qz, qz, qz, qz, qz, qz, qz, qz, qz, qz, qz, qz, qz, qz, qz, qz, qz, qz, qz, qz, qz, qz, qz, qz, qz, qz, qz, qz, qz, qz, qz, qz, qz, qz, qz, qz, qz, qz, qz, qz, qz, qz, qz, qz, qz, qz, qz, qz, qz, qz, qz, qz, qz, qz, qz, qz, qz, qz, qz, qz, qz, qz, qz, qz, qz, qz, qz, qz, qz, qz, qz, qz, qz, qz, qz, qz, qz, qz, qz, qz, qz, qz, qz, qz, qz, qz, qz, qz, qz, qz, qz, qz, qz, qz, qz, qz, qz, qz, qz, qz, qz, qz, qz, qz, qz, qz, qz, qz, qz, qz, qz, qz, qz, qz, qz, qz, qz, qz, qz, qz, qz, qz, qz, qz, qz, qz, qz, qz, qz, qz, qz, qz, qz, qz, qz, qz, qz] 320)
def db34 : AB := (.vec [.int .u64 (.lit 5), qz, qi 1] 588)
def db35 : AB := (.cells [qz, qi 1, .int .u64 (.lit 5), qu, qu, qu, qu, qi 1, qi 1, qu, qu, qu, qu, qu] 529)
def db36 : AB := (.cells [.slc 54 0 (.lit 64) (some 64), qz, qz] 417)
def db37 : AB := (.cells [.slc 16 0 (.lit 16) (some 16), qz, qz, qz, qz, qz, qz, qz, qz, qz, qz, qz, qz, qz, qz, qz, qz] 188)
def db38 : AB := (.cells [.ptr 22 0, qi 2, qf, qz, qf, qz, qf, qz, qf, qz, qf, qz, qf, qz, qf, qz, qf, qz, qf, qz, qf, qz, qf, qz, qf, qz, qf, qz, qf, qz, qf, qz, qf, qz, qf, qz, qf, qz, qf, qz, qf, qz, qf, qz, qf, qz, qf, qz, qf, qz, qf, qz, qf, qz, qf, qz, qf, qz, qf, qz, qf, qz, qf, qz, qf, qz, qf, qz, qf, qz, qf, qz, qf, qz, qf, qz, qf, qz, qf, qz, qf, qz, qf, qz, qf, qz, qf, qz, qf, qz, qf, qz, qf, qz, qf, qz, qf, qz, qf, qz, qf, qz, qf, qz, qf, qz, qf, qz, qf, qz, qf, qz, qf, qz, qf, qz, qf, qz, qf, qz, qf, qz, qf, qz, qf, qz, qf, qz, qf, qz, qf, qz, qf, qz, qf, qz, qf, qz, qf, qz, qf, qz, qf, qz, qf, qz, qf, qz, qf, qz, qf, qz, qf, qz, qf, qz, qf, qz, qf, qz, qf, qz, qf, qz, qf, qz, qf, qz, qf, qz, qf, qz, qf, qz, qf, qz, qf, qz, qf, qz, qf, qz, qf, qz, qf, qz, qf, qz, qf, qz, qf, qz, qf, qz, qf, qz, qf, qz, qf, qz, qf, qz, qf, qz, qf, qz, qf, qz, qf, qz, qf, qz, qf, qz, qf, qz, qf, qz, qf, qz, qf, qz, qf, qz, qf, qz, qf, qz, qf, qz, qf, qz, qf, qz, qf, qz, qf, qz, qf, qz, qf, qz, qf, qz, qf, qz, qf, qz, qf, qz, qf, qz, qf, qz, qf, qz, qf, qz, qf, qz, qf, qz, qf, qz, qf, qz, qf, qz, qf, qz, qf, qz, qf, qz, qf, qz, qf, qz, qf, qz, qf, qz, qf, qz, qf, qz, qf, qz, qf, qz, qf, qz, qf, qz, qf, qz, qf, qz, qf, qz, qf, qz, qf, qz, qf, qz, qf, qz, qf, qz, qf, qz, qf, qz, qf, qz, qf, qz, qf, qz, qf, qz, qf, qz, qf, qz, qf, qz, qf, qz, qf, qz, qf, qz, qf, qz, qf, qz, qf, qz, qf, qz, qf, qz, qf, qz, qf, qz, qf, qz, qf, qz, qf, qz, qf, qz, qf, qz, qf, qz, qf, qz, qf, qz, qf, qz, qf, qz, qf, qz, qf, qz, qf, qz, qf, qz, qf, qz, qf, qz, qf, qz, qf, qz, qf, qz, qf, qz, qf, qz, qf, qz, qf, qz, qf, qz, qf, qz, qf, qz, qf, qz, qf, qz, qf, qz, qf, qz, qf, qz, qf, qz, qf, qz, qf, qz, qf, qz, qf, qz, qf, qz, qf, qz, qf, qz, qf, qz, qf, qz, qf, qz, qf, qz, qf, qz, qf, qz, qf, qz, qf, qz, qf, qz, qf, qz, qf, qz, qf, qz, qf, qz, qf, qz, qf, qz, qf, qz, qf, qz, qf, qz, qf, qz, qf, qz, qf, qz, qf, qz, qf, qz, qf, qz, qf, qz, qf, qz, qf, qz, qf, qz, qf, qz, qf, qz, qf, qz, qf, qz, qf, qz, qf, qz, qf, qz, qf, qz, qf, qz, qf, qz, qf, qz, qf, qz, qf, qz, qf, qz, qf, qz, qf, qz, qz, qz, qz, qz, qz, qz, qz, qz, qz, qz, qz, qz, qz, qz, qz, qz, qz, qz, qz, qz, qz, qz, qz, qz, qz, qz, qz, qz, qz, qz, qz, qz] 254)
def db39 : AB := (.cells [.slc 29 0 (.lit 8) (some 8), qi 1, qi 1] 532)
def db40 : AB := (.vec [.ptr 43 0, .ptr 44 0] 331)
def db41 : AB := (.cells [.slc 35 0 (.lit 2) Option.none, qz] 330)
def db42 : AB := (.cells [.slc 52 0 (.lit 256) (some 256), qz, qz] 389)
def db43 : AB := (.cells [.slc 33 0 (.lit 2) Option.none, qz, qz, qz, qz, qz, qz, qz, qz, qz, qz, qz, qz, qz, qz, qz, qz, qz, qz, qz, qz, qz, qz, qz, qz, qz, qz, qz, qz, qz, qz, qz, qz, qz, qz, qz, qz, qz, qz, qz, qz, qz, qz, qz, qz, qz, qz, qz, qz, qz, qz, qz, qz, qz, qz, qz, qz, qz, qz, qz, qz, qz, qz, qz, qz, qz, qz, qz, qz, qz, qz, qz, qz, qz, qz, qz, qz, qz, qz, qz, qz, qz, qz, qz, qz, qz, qz, qz, qz, qz, qz, qz, qz, qz, qz, qz, qz, qz, qz, qz, qz, qz, qz, qz, qz, qz, qz, qz, qz, qz, qz, qz, qz, qz, qz, qz, qz, qz, qz, qz, qz, qz, qz, qz, qz, qz, qz, qz, qz, qz, qz, qz, qz, qz, qz, qz, qz, qz, qz, qz, qz, qz, qz, qz, qz, qz, qz, qz, qz, qz, qz, qz, qz, qz, qz, qz, qz, qz, qz, qz, qz, qz, qz, qz, qz, qz, qz, qz, qz, qz, qz, qz, qz, qz, qz, qz, qz, qz, qz, qz, qz, qz, qz, qz, qz, qz, qz, qz, qz, qz, qz, qz, qz, qz, qz, qz, qz, qz, qz, qz, qz, qz, qz, qz, qz, qz, qz, qz, qz, qz, qz, qz, qz, qz, qz, qz, qz, qz, qz, qz, qz, qz, qz, qz, qz, qz, qz, qz, qz, qz, qz, qz, qz, qz, qz, qz, qz, qz, qz, qz, qz, qz, qz, qz, qz, qz, qz, qz, qz, qz, qz, qz, qz, qz, qz, qz, qz, qz, qz, qz, qz, qz, qz, qz, qz, qz, qz, qz, qz, qz, qz, qz, qz, qz, qz, qz, qz, qz, qz, qz, qz, qz, qz, qz, qz, qz, qz, qz, qz] 320)
def db44 : AB := (.cells [.slc 48 0 (.lit 256) (some 256), qz, qz] 389)
def db45 : AB := (.map [⟨.int .u64 (.lit 5), qi 1, 0⟩] 1 true)
def db46 : AB := (.cells [.slc 56 0 (.lit 64) (some 64), qz, qz] 417)
def dMS : St := ⟨(.node (some db0) (.node (some db1) (.node (some db2) (.node (some db3) (.node (some db4) (.node (some db5) .leaf .leaf) (.node (some db6) .leaf .leaf)) (.node (some db7) (.node (some db8) .leaf .leaf) (.node (some db9) .leaf .leaf))) (.node (some db10) (.node (some db11) (.node (some db12) .leaf .leaf) (.node (some db6) .leaf .leaf)) (.node (some db13) (.node (some db14) .leaf .leaf) .leaf))) (.node (some db15) (.node (some db16) (.node (some db17) (.node (some db18) .leaf .leaf) (.node (some db13) .leaf .leaf)) (.node (some db7) (.node (some db19) .leaf .leaf) .leaf)) (.node (some db20) (.node (some db21) (.node (some db22) .leaf .leaf) (.node (some db9) .leaf .leaf)) (.node (some db23) (.node (some db24) .leaf .leaf) .leaf)))) (.node (some db25) (.node (some db26) (.node (some db27) (.node (some db28) (.node (some db29) .leaf .leaf) (.node (some db6) .leaf .leaf)) (.node (some db30) (.node (some db31) .leaf .leaf) (.node (some db9) .leaf .leaf))) (.node (some db32) (.node (some db33) (.node (some db34) .leaf .leaf) (.node (some db6) .leaf .leaf)) (.node (some db35) (.node (some db36) .leaf .leaf) .leaf))) (.node (some db37) (.node (some db38) (.node (some db39) (.node (some db40) .leaf .leaf) (.node (some db13) .leaf .leaf)) (.node (some db41) (.node (some db42) .leaf .leaf) .leaf)) (.node (some db13) (.node (some db43) (.node (some db44) .leaf .leaf) (.node (some db9) .leaf .leaf)) (.node (some db45) (.node (some db46) .leaf .leaf) .leaf))))), 200⟩
def dMA : A := ⟨[.mk (.int .u64 (.atom 9)) (.int .u64 (.atom 2)) (.int .i64 (.atom 7)) (.int .i64 (.atom 8)) (.top 80 (.atom 35)) .dead .dead .dead, .mk .dead .dead qf (.ptr 0 0) .dead (.slc 1 0 (.lit 16) Option.none) .dead .dead, d8, d8, d8, d8, d8, d8, d8, d8, d8, d8, d8, d8, d8, d8, d8, d8, d8, d8, d8, d8, d8, d8, d8, d8, d8, d8, d8, d8, d8, d8], []⟩
def dMR : List (Nat × Nat) := [(0, 83), (1, 463), (2, 82), (3, 81), (4, 42), (5, 80), (6, 78), (7, 442), (8, 122), (9, 40), (10, 52), (11, 63), (12, 74), (13, 76), (14, 41), (15, 79), (16, 77), (17, 128), (18, 131), (19, 133), (20, 0), (21, 9), (22, 43), (23, 62), (24, 53), (25, 73), (26, 64), (27, 75), (28, 124), (29, 130), (30, 132), (31, 8), (32, 39), (33, 51), (34, 61), (35, 72), (36, 384), (37, 2), (38, 6), (39, 23), (40, 38), (41, 45), (42, 49), (43, 55), (44, 59), (45, 66), (46, 70), (47, 1), (48, 5), (49, 22), (50, 37), (51, 44), (52, 48), (53, 54), (54, 58), (55, 65), (56, 69)]
def db47 : AB := (.cells [qi 73, qz, qz, qz, qz] 46)
def dA0S : St := ⟨(.node (some db0) (.node (some db1) (.node (some db2) (.node (some db3) (.node (some db4) (.node (some db5) .leaf .leaf) (.node (some db6) .leaf .leaf)) (.node (some db7) (.node (some db8) .leaf .leaf) (.node (some db9) .leaf .leaf))) (.node (some db10) (.node (some db11) (.node (some db12) .leaf .leaf) (.node (some db6) .leaf .leaf)) (.node (some db13) (.node (some db14) .leaf .leaf) .leaf))) (.node (some db15) (.node (some db16) (.node (some db17) (.node (some db18) .leaf .leaf) (.node (some db13) .leaf .leaf)) (.node (some db7) (.node (some db19) (.node Option.none .leaf (.node (some db47) .leaf .leaf)) .leaf) .leaf)) (.node (some db20) (.node (some db21) (.node (some db22) .leaf .leaf) (.node (some db9) .leaf .leaf)) (.node (some db23) (.node (some db24) .leaf .leaf) .leaf)))) (.node (some db25) (.node (some db26) (.node (some db27) (.node (some db28) (.node (some db29) .leaf .leaf) (.node (some db6) .leaf .leaf)) (.node (some db30) (.node (some db31) (.node Option.none .leaf (.node (some db47) .leaf .leaf)) .leaf) (.node (some db9) .leaf .leaf))) (.node (some db32) (.node (some db33) (.node (some db34) .leaf .leaf) (.node (some db6) .leaf .leaf)) (.node (some db35) (.node (some db36) .leaf .leaf) .leaf))) (.node (some db37) (.node (some db38) (.node (some db39) (.node (some db40) .leaf .leaf) (.node (some db13) .leaf .leaf)) (.node (some db41) (.node (some db42) .leaf .leaf) .leaf)) (.node (some db13) (.node (some db43) (.node (some db44) .leaf .leaf) (.node (some db9) .leaf .leaf)) (.node (some db45) (.node (some db46) .leaf .leaf) .leaf))))), 202⟩
def db48 : AB := (.vec [qi 73, qz, qz, qz, qz] 46)
def db49 : AB := (.cells [.ptr 3 0, .ptr 4 0, .ptr 332 0, .nilp, .nilp, .nilp, .nilp, .nilp, .nilp, .nilp, .nilp, .nilp, .nilp, .nilp, .nilp, .nilp, .nilp, .nilp, .ptr 5 0, .nilm, .ptr 6 0, .slc 388 0 (.lit 3) Option.none, qz, .nilp, .nilp, .nilp, .nilp, .nilp, .nilp, .nilp, .nilp, .nilp, .nilp, .nilp, .nilp, .nilp, .nilp, .nilp, .nilp, .nilp, .nilp, .nilp, .nilp, .nilp, .nilp, .nilp, .nilp, .nilp, .nilp, .nilp, .nilp, .nilp, .nilp, .nilp, .nilp, .nils, qi 2] 99)
def db50 : AB := (.vec [.int .u64 (.atom 9), qz, qi 7, qz, qu, .int .u64 (.atom 9), qz, qi 9, qz, qu, .int .u64 (.atom 9), qz, qi 6, qz, qu] 34)
def db51 : AB := (.cells [.slc 331 0 (.lit 1) Option.none, qf] 286)
def dB0S : St := ⟨(.node (some db0) (.node (some db1) (.node (some db2) (.node Option.none (.node (some db4) (.node (some db5) .leaf .leaf) (.node (some db6) .leaf .leaf)) (.node (some db7) (.node (some db8) .leaf .leaf) (.node (some db9) .leaf .leaf))) (.node (some db10) (.node (some db11) (.node (some db12) .leaf .leaf) (.node (some db6) .leaf .leaf)) (.node (some db13) (.node (some db14) (.node Option.none .leaf (.node Option.none (.node (some db48) .leaf .leaf) .leaf)) .leaf) .leaf))) (.node (some db15) (.node (some db16) (.node (some db17) (.node (some db18) .leaf .leaf) (.node (some db13) .leaf .leaf)) (.node (some db7) (.node (some db19) (.node Option.none .leaf (.node (some db47) .leaf .leaf)) .leaf) .leaf)) (.node (some db20) (.node (some db21) (.node (some db22) .leaf .leaf) (.node (some db9) .leaf .leaf)) (.node (some db23) (.node (some db24) .leaf .leaf) .leaf)))) (.node (some db49) (.node (some db26) (.node (some db27) (.node (some db28) (.node (some db29) .leaf .leaf) (.node (some db6) .leaf .leaf)) (.node (some db30) (.node (some db31) (.node Option.none .leaf (.node (some db47) .leaf .leaf)) .leaf) (.node (some db9) .leaf .leaf))) (.node (some db32) (.node (some db33) (.node (some db34) (.node Option.none (.node Option.none .leaf (.node (some db50) .leaf .leaf)) .leaf) .leaf) (.node (some db6) .leaf .leaf)) (.node (some db35) (.node (some db36) (.node Option.none .leaf (.node Option.none (.node (some db51) .leaf .leaf) .leaf)) .leaf) .leaf))) (.node (some db37) (.node (some db38) (.node (some db39) (.node (some db40) .leaf .leaf) (.node (some db13) .leaf .leaf)) (.node (some db41) (.node (some db42) .leaf .leaf) .leaf)) (.node (some db13) (.node (some db43) (.node (some db44) .leaf .leaf) (.node (some db9) .leaf .leaf)) (.node (some db45) (.node (some db46) .leaf .leaf) .leaf))))), 390⟩
def dG0 : List SV := [.ptr 0 0, .bool false, .int .i64 (.lit 0), .slc 201 0 (.lit 1) (some 1)]
def dV0 : SV := .bool true
def dA1S : St := dB0S
def db52 : AB := (.vec [.int .u64 (.atom 9), qz, qi 7, qz, qu, .int .u64 (.atom 9), qz, qi 9, qz, qu, .int .u64 (.atom 9), qz, qi 6, qz, qu, .int .u64 (.atom 9), qz, qi 6, qz, .int .u64 (.lit 1)] 34)
def db53 : AB := (.cells [.slc 2090 0 (.lit 16) Option.none, qf] 286)
def db54 : AB := (.cells [.ptr 3 0, .ptr 4 0, .ptr 332 0, .ptr 2091 0, .nilp, .nilp, .nilp, .nilp, .nilp, .nilp, .nilp, .nilp, .nilp, .nilp, .nilp, .nilp, .nilp, .nilp, .ptr 5 0, .nilm, .ptr 6 0, .slc 2695 0 (.lit 4) Option.none, qz, .nilp, .nilp, .nilp, .nilp, .nilp, .nilp, .nilp, .nilp, .nilp, .nilp, .nilp, .nilp, .nilp, .nilp, .nilp, .nilp, .nilp, .nilp, .nilp, .nilp, .nilp, .nilp, .nilp, .nilp, .nilp, .nilp, .nilp, .nilp, .nilp, .nilp, .nilp, .nilp, .nils, qi 2] 99)
def dB1S : St := ⟨(.node (some db0) (.node (some db1) (.node (some db2) (.node Option.none (.node (some db4) (.node (some db5) .leaf .leaf) (.node (some db6) .leaf .leaf)) (.node (some db7) (.node (some db8) (.node Option.none (.node Option.none .leaf (.node Option.none (.node Option.none .leaf (.node Option.none (.node (some db52) .leaf .leaf) .leaf)) .leaf)) .leaf) .leaf) (.node (some db9) .leaf .leaf))) (.node (some db10) (.node (some db11) (.node (some db12) .leaf .leaf) (.node (some db6) .leaf .leaf)) (.node (some db13) (.node (some db14) (.node Option.none .leaf (.node Option.none (.node (some db48) .leaf .leaf) .leaf)) (.node Option.none (.node Option.none (.node Option.none (.node Option.none (.node Option.none (.node (some db53) .leaf .leaf) .leaf) .leaf) .leaf) .leaf) .leaf)) .leaf))) (.node (some db15) (.node (some db16) (.node (some db17) (.node (some db18) .leaf .leaf) (.node (some db13) .leaf .leaf)) (.node (some db7) (.node (some db19) (.node Option.none .leaf (.node (some db47) .leaf .leaf)) .leaf) .leaf)) (.node (some db20) (.node (some db21) (.node (some db22) .leaf .leaf) (.node (some db9) .leaf .leaf)) (.node (some db23) (.node (some db24) .leaf .leaf) .leaf)))) (.node (some db54) (.node (some db26) (.node (some db27) (.node (some db28) (.node (some db29) .leaf .leaf) (.node (some db6) .leaf .leaf)) (.node (some db30) (.node (some db31) (.node Option.none .leaf (.node (some db47) .leaf .leaf)) .leaf) (.node (some db9) .leaf .leaf))) (.node (some db32) (.node (some db33) (.node (some db34) .leaf .leaf) (.node (some db6) .leaf .leaf)) (.node (some db35) (.node (some db36) (.node Option.none .leaf (.node Option.none (.node (some db51) .leaf .leaf) .leaf)) .leaf) .leaf))) (.node (some db37) (.node (some db38) (.node (some db39) (.node (some db40) .leaf .leaf) (.node (some db13) .leaf .leaf)) (.node (some db41) (.node (some db42) .leaf (.node Option.none (.node Option.none (.node Option.none (.node Option.none (.node Option.none (.node (some db1) .leaf .leaf) .leaf) .leaf) .leaf) .leaf) .leaf)) .leaf)) (.node (some db13) (.node (some db43) (.node (some db44) .leaf .leaf) (.node (some db9) .leaf .leaf)) (.node (some db45) (.node (some db46) .leaf .leaf) .leaf))))), 2697⟩
def dG1 : List SV := [.ptr 0 0, .bool false, .int .i64 (.lit 1), .slc 1 0 (.lit 16) Option.none]
def dV1 : SV := .bool true
def db55 : AB := (.cells [qi 8, qi 1, qz, qi 50, .int .u64 (.atom 2), qu, .nils, qi 1, qz, qz, qz, qu, qu, .nils, qi 1, qz, qz, qz, qu, qu, .nils] 43)
def db56 : AB := (.cells [qi 1, qz, qz, qz, qu, qu, .nils] 43)
def dA2S : St := ⟨(.node (some db0) (.node (some db1) (.node (some db2) (.node Option.none (.node (some db4) (.node (some db5) .leaf .leaf) (.node (some db6) .leaf .leaf)) (.node (some db7) (.node (some db8) (.node Option.none (.node Option.none .leaf (.node Option.none (.node Option.none .leaf (.node Option.none (.node (some db52) .leaf .leaf) .leaf)) .leaf)) .leaf) .leaf) (.node (some db9) .leaf .leaf))) (.node (some db10) (.node (some db11) (.node (some db12) .leaf .leaf) (.node (some db6) .leaf .leaf)) (.node (some db13) (.node (some db14) (.node Option.none (.node Option.none .leaf (.node Option.none (.node Option.none .leaf (.node Option.none (.node (some db55) .leaf .leaf) .leaf)) .leaf)) (.node Option.none (.node (some db48) .leaf .leaf) .leaf)) (.node Option.none (.node Option.none (.node Option.none (.node Option.none (.node Option.none (.node (some db53) .leaf .leaf) .leaf) .leaf) .leaf) .leaf) .leaf)) .leaf))) (.node (some db15) (.node (some db16) (.node (some db17) (.node (some db18) .leaf .leaf) (.node (some db13) .leaf .leaf)) (.node (some db7) (.node (some db19) (.node Option.none (.node Option.none .leaf (.node Option.none (.node Option.none .leaf (.node Option.none (.node (some db56) .leaf .leaf) .leaf)) .leaf)) (.node (some db47) .leaf .leaf)) .leaf) .leaf)) (.node (some db20) (.node (some db21) (.node (some db22) .leaf .leaf) (.node (some db9) .leaf .leaf)) (.node (some db23) (.node (some db24) .leaf .leaf) .leaf)))) (.node (some db54) (.node (some db26) (.node (some db27) (.node (some db28) (.node (some db29) .leaf .leaf) (.node (some db6) .leaf .leaf)) (.node (some db30) (.node (some db31) (.node Option.none .leaf (.node (some db47) .leaf .leaf)) .leaf) (.node (some db9) .leaf .leaf))) (.node (some db32) (.node (some db33) (.node (some db34) .leaf .leaf) (.node (some db6) .leaf .leaf)) (.node (some db35) (.node (some db36) (.node Option.none .leaf (.node Option.none (.node (some db51) .leaf .leaf) .leaf)) .leaf) .leaf))) (.node (some db37) (.node (some db38) (.node (some db39) (.node (some db40) .leaf .leaf) (.node (some db13) .leaf .leaf)) (.node (some db41) (.node (some db42) (.node Option.none (.node Option.none .leaf (.node Option.none (.node Option.none .leaf (.node Option.none (.node (some db56) .leaf .leaf) .leaf)) .leaf)) .leaf) (.node Option.none (.node Option.none (.node Option.none (.node Option.none (.node Option.none (.node (some db1) .leaf .leaf) .leaf) .leaf) .leaf) .leaf) .leaf)) .leaf)) (.node (some db13) (.node (some db43) (.node (some db44) .leaf .leaf) (.node (some db9) .leaf .leaf)) (.node (some db45) (.node (some db46) .leaf .leaf) .leaf))))), 2700⟩
def dG2 : List SV := [.ptr 0 0, .slc 2699 0 (.lit 3) (some 3)]
def dV2 : SV := .bool true
def db57 : AB := (.sel (.int .u64 (.atom 9) :: nilsN 512 [qu, qu, qu, qu, qu, qu, qu, qu, .map 49, qi 1]) 1 520 [(60, .slc 8596 0 (.lit 1) Option.none), (61, .int .u64 (.atom 71)), (62, .int .u64 (.atom 72)), (63, .int .u64 (.atom 73)), (64, .int .u64 (.atom 74)), (65, .int .u64 (.atom 75)), (66, .int .u64 (.atom 76)), (67, .int .u64 (.atom 77)), (68, .int .u64 (.atom 78))] 415)
def db58 : AB := (.cells [qi 1, qi 2, .map 30] 535)
def db59 : AB := (.map [⟨qz, .ptr 6920 0, 0⟩] 1 true)
def db60 : AB := (.vec [.int .u64 (.atom 9), qz, qi 7, qz, qu, .int .u64 (.atom 9), qz, qi 9, qz, qu, .int .u64 (.atom 9), qz, qi 6, qz, qu, .int .u64 (.atom 9), qz, qi 6, qz, .int .u64 (.lit 1), .int .u64 (.atom 9), qz, qi 8, qz, qu, .int .u64 (.atom 9), qi 3, qz, qi 1, qu, .int .u64 (.atom 9), qi 5, qz, qi 192, .int .u64 (.lit 1), .int .u64 (.atom 9), qi 5, qz, qi 384, qu, .int .u64 (.atom 9), qz, qi 1, qz, qu, .int .u64 (.atom 9), qi 5, qz, qi 448, qu, .int .u64 (.atom 9), qi 5, qz, qi 512, qu, .int .u64 (.atom 9), qi 4, qz, qz, qu, .int .u64 (.atom 9), qz, qi 1, qz, qu] 34)
def db61 : AB := (.cells [.ptr 20 0, .ptr 21 0, .bool true, qf, qi 1, qi 1, qf, qf, qz, qz, qf, qf, qz, qz, qf, qf, qz, qz, qf, qf, qz, qz, qf, qf, qz, qz, qf, qf, qz, qz, qf, qf, qz, qz, qf, qf, qz, qz, qf, qf, qz, qz, qf, qf, qz, qz, qf, qf, qz, qz, qf, qf, qz, qz, qf, qf, qz, qz, qf, qf, qz, qz, qf, qf, qz, qz, qf, qf, qz, qz, qf, qf, qz, qz, qf, qf, qz, qz, qf, qf, qz, qz, qf, qf, qz, qz, qf, qf, qz, qz, qf, qf, qz, qz, qf, qf, qz, qz, qf, qf, qz, qz, qf, qf, qz, qz, qf, qf, qz, qz, qf, qf, qz, qz, qf, qf, qz, qz, qf, qf, qz, qz, qf, qf, qz, qz, qf, qf, qz, qz, qf, qf, qz, qz, qf, qf, qz, qz, qf, qf, qz, qz, qf, qf, qz, qz, qf, qf, qz, qz, qf, qf, qz, qz, qf, qf, qz, qz, qf, qf, qz, qz, qf, qf, qz, qz, qf, qf, qz, qz, qf, qf, qz, qz, qf, qf, qz, qz, qf, qf, qz, qz, qf, qf, qz, qz, qf, qf, qz, qz, qf, qf, qz, qz, qf, qf, qz, qz, qf, qf, qz, qz, qf, qf, qz, qz, qf, qf, qz, qz, qf, qf, qz, qz, qf, qf, qz, qz, qf, qf, qz, qz, qf, qf, qz, qz, qf, qf, qz, qz, qf, qf, qz, qz, qf, qf, qz, qz, qf, qf, qz, qz, qf, qf, qz, qz, qf, qf, qz, qz, qf, qf, qz, qz, qf, qf, qz, qz, qf, qf, qz, qz, qf, qf, qz, qz, qf, qf, qz, qz, qf, qf, qz, qz, qf, qf, qz, qz, qf, qf, qz, qz, qf, qf, qz, qz, qf, qf, qz, qz, qf, qf, qz, qz, qf, qf, qz, qz, qf, qf, qz, qz, qf, qf, qz, qz, qf, qf, qz, qz, qf, qf, qz, qz, qf, qf, qz, qz, qf, qf, qz, qz, qf, qf, qz, qz, qf, qf, qz, qz, qf, qf, qz, qz, qf, qf, qz, qz, qf, qf, qz, qz, qf, qf, qz, qz, qf, qf, qz, qz, qf, qf, qz, qz, qf, qf, qz, qz, qf, qf, qz, qz, qf, qf, qz, qz, qf, qf, qz, qz, qf, qf, qz, qz, qf, qf, qz, qz, qf, qf, qz, qz, qf, qf, qz, qz, qf, qf, qz, qz, qf, qf, qz, qz, qf, qf, qz, qz, qf, qf, qz, qz, qf, qf, qz, qz, qf, qf, qz, qz, qf, qf, qz, qz, qf, qf, qz, qz, qf, qf, qz, qz, qf, qf, qz, qz, qf, qf, qz, qz, qf, qf, qz, qz, qf, qf, qz, qz, qf, qf, qz, qz, qf, qf, qz, qz, qf, qf, qz, qz, qf, qf, qz, qz, qf, qf, qz, qz, qf, qf, qz, qz, qf, qf, qz, qz, qf, qf, qz, qz, qf, qf, qz, qz, qf, qf, qz, qz, qf, qf, qz, qz, qf, qf, qz, qz, qf, qf, qz, qz, qf, qf, qz, qz, qf, qf, qz, qz, qf, qf, qz, qz, qf, qf, qz, qz, qf, qf, qz, qz, qf, qf, qz, qz, qf, qf, qz, qz, qf, qf, qz, qz, qf, qf, qz, qz, qf, qf, qz, qz, qf, qf, qz, qz, qf, qf, qz, qz, qf, qf, qz, qz, qf, qf, qz, qz, qf, qf, qz, qz, qf, qf, qz, qz, qf, qf, qz, qz, qf, qf, qz, qz, qf, qf, qz, qz, qf, qf, qz, qz, qf, qf, qz, qz, qf, qf, qz, qz, qf, qf, qz, qz, qf, qf, qz, qz, qf, qf, qz, qz, qf, qf, qz, qz, qf, qf, qz, qz, qf, qf, qz, qz, qf, qf, qz, qz, qf, qf, qz, qz, qf, qf, qz, qz, qf, qf, qz, qz, qf, qf, qz, qz, qf, qf, qz, qz, qf, qf, qz, qz, qf, qf, qz, qz, qf, qf, qz, qz, qf, qf, qz, qz, qf, qf, qz, qz, qf, qf, qz, qz, qf, qf, qz, qz, qf, qf, qz, qz, qf, qf, qz, qz, qf, qf, qz, qz, qf, qf, qz, qz, qf, qf, qz, qz, qf, qf, qz, qz, qf, qf, qz, qz, qf, qf, qz, qz, qf, qf, qz, qz, qf, qf, qz, qz, qf, qf, qz, qz, qf, qf, qz, qz, qf, qf, qz, qz, qf, qf, qz, qz, qf, qf, qz, qz, qf, qf, qz, qz, qf, qf, qz, qz, qf, qf, qz, qz, qf, qf, qz, qz, qf, qf, qz, qz, qf, qf, qz, qz, qf, qf, qz, qz, qf, qf, qz, qz, qf, qf, qz, qz, qf, qf, qz, qz, qf, qf, qz, qz, qf, qf, qz, qz, qf, qf, qz, qz, qf, qf, qz, qz, qf, qf, qz, qz, qf, qf, qz, qz, qf, qf, qz, qz, qf, qf, qz, qz, qf, qf, qz, qz, qf, qf, qz, qz, qf, qf, qz, qz, qf, qf, qz, qz, qf, qf, qz, qz, qf, qf, qz, qz, qf, qf, qz, qz, qf, qf, qz, qz, qf, qf, qz, qz, qf, qf, qz, qz, qf, qf, qz, qz, qf, qf, qz, qz, qf, qf, qz, qz, qf, qf, qz, qz, qf, qf, qz, qz, qf, qf, qz, qz, qf, qf, qz, qz, qf, qf, qz, qz, qf, qf, qz, qz, qf, qf, qz, qz, qf, qf, qz, qz, qf, qf, qz, qz, qf, qf, qz, qz, qf, qf, qz, qz, qf, qf, qz, qz, qf, qf, qz, qz, qf, qf, qz, qz, qf, qf, qz, qz, qf, qf, qz, qz, qf, qf, qz, qz, qf, qf, qz, qz, qf, qf, qz, qz, qf, qf, qz, qz, qf, qf, qz, qz, qf, qf, qz, qz, qf, qf, qz, qz, qf, qf, qz, qz, qf, qf, qz, qz, qf, qf, qz, qz, qf, qf, qz, qz, qf, qf, qz, qz, qf, qf, qz, qz, qf, qf, qz, qz, qf, qf, qz, qz, qf, qf, qz, qz, qf, qf, qz, qz, qf, qf, qz, qz, qf, qf, qz, qz, qf, qf, qz, qz, qf, qf, qz, qz, qf, qf, qz, qz, qf, qf, qz, qz, qf, qf, qz, qz, qf, qf, qz, qz, qf, qf, qz, qz, qf, qf, qz, qz, qf, qf, qz, qz, qf, qf, qz, qz, qf, qf, qz, qz, qf, qf, qz, qz] 248)
def db62 : AB := (.map [⟨qz, .agg [.int .i64 (.atom 44), .int .i64 (.atom 15), .int .u64 (.atom 13), .int .u64 (.atom 14), qi 1], 0⟩] 1 true)
def db63 : AB := (.cells [qz, qz, qz, qz, qz, qz, qz, qz, qz, qz, qz, qz, qz, qz, qz, qz, qz, qz, qz, qz, qz, qz, qz, qz, qz, qz, qz, qz, qz, qz, qz, qz, qz, qz, qz, qz, qz, qz, qz, qz, qz, qz, qz, qz, qz, qz, qz, qz, qz, qz, qz, qz, qz, qz, qz, qz, qz, qz, qz, qz, qz, qz, qz, qz, qz, qz, qz, qz, qz, qz, qz, qz, qz, qz, qz, qz, qz, qz, qz, qz, qz, qz, qz, qz, qz, qz, qz, qz, qz, qz, qz, qz, qz, qz, qz, qz, qz, qz, qz, qz, qz, qz, qz, qz, qz, qz, qz, qz, qz, qz, qz, qz, qz, qz, qz, qz, qz, qz, qz, qz, qz, qz, qz, qz, qz, qz, qz, qz, qu, qi 1] 263)
def db64 : AB := (.cells [.ptr 3 0, .ptr 4 0, .ptr 332 0, .ptr 2091 0, .nilp, .nilp, .nilp, .nilp, .nilp, .nilp, .nilp, .nilp, .nilp, .nilp, .nilp, .nilp, .nilp, .nilp, .ptr 5 0, .nilm, .ptr 6 0, .slc 9899 0 (.lit 13) Option.none, qz, .nilp, .nilp, .nilp, .nilp, .nilp, .nilp, .nilp, .nilp, .nilp, .nilp, .nilp, .nilp, .nilp, .nilp, .nilp, .nilp, .nilp, .nilp, .nilp, .nilp, .nilp, .nilp, .nilp, .nilp, .nilp, .nilp, .nilp, .nilp, .nilp, .nilp, .nilp, .nilp, .nils, qi 2] 99)
def db65 : AB := (.cells [qi 1, qi 8, qf] 527)
def db66 : AB := (.vec [qz] 3)
def db67 : AB := (.map [⟨.int .u64 (.lit 5), qi 2, 0⟩] 1 true)
def dB0tS : St := ⟨(.node (some db0) (.node (some db1) (.node (some db2) (.node Option.none (.node (some db4) (.node (some db5) .leaf .leaf) (.node (some db6) .leaf .leaf)) (.node (some db7) (.node (some db57) .leaf .leaf) (.node (some db9) .leaf .leaf))) (.node (some db10) (.node (some db58) (.node (some db12) .leaf .leaf) (.node (some db6) .leaf .leaf)) (.node (some db59) (.node (some db14) (.node Option.none (.node Option.none .leaf (.node Option.none (.node Option.none .leaf (.node Option.none (.node (some db55) .leaf .leaf) .leaf)) .leaf)) (.node Option.none (.node (some db48) .leaf .leaf) .leaf)) (.node Option.none (.node Option.none (.node Option.none (.node Option.none (.node Option.none (.node (some db53) .leaf .leaf) .leaf) .leaf) .leaf) (.node Option.none (.node Option.none .leaf (.node Option.none .leaf (.node Option.none (.node Option.none (.node (some db60) .leaf .leaf) .leaf) .leaf))) .leaf)) .leaf)) .leaf))) (.node (some db15) (.node (some db61) (.node (some db17) (.node (some db18) .leaf .leaf) (.node (some db62) .leaf .leaf)) (.node (some db63) (.node (some db19) (.node Option.none (.node Option.none .leaf (.node Option.none (.node Option.none .leaf (.node Option.none (.node (some db56) .leaf .leaf) .leaf)) .leaf)) (.node (some db47) .leaf .leaf)) .leaf) .leaf)) (.node (some db20) (.node (some db21) (.node (some db22) .leaf .leaf) (.node (some db9) .leaf .leaf)) (.node (some db23) (.node (some db24) .leaf .leaf) .leaf)))) (.node (some db64) (.node (some db26) (.node (some db27) (.node (some db28) (.node (some db29) .leaf .leaf) (.node (some db6) .leaf .leaf)) (.node (some db30) (.node (some db31) (.node Option.none (.node Option.none (.node Option.none .leaf (.node Option.none .leaf (.node Option.none (.node Option.none .leaf (.node (some db65) .leaf .leaf)) .leaf))) .leaf) (.node (some db47) .leaf .leaf)) .leaf) (.node (some db9) .leaf .leaf))) (.node (some db32) (.node (some db33) (.node (some db34) .leaf .leaf) (.node (some db6) (.node Option.none (.node Option.none .leaf (.node Option.none .leaf (.node Option.none (.node Option.none (.node Option.none (.node Option.none (.node (some db66) .leaf .leaf) .leaf) .leaf) .leaf) .leaf))) .leaf) .leaf)) (.node (some db35) (.node (some db36) (.node Option.none .leaf (.node Option.none (.node (some db51) .leaf .leaf) .leaf)) .leaf) .leaf))) (.node (some db37) (.node (some db38) (.node (some db39) (.node (some db40) .leaf .leaf) (.node (some db13) .leaf .leaf)) (.node (some db41) (.node (some db42) (.node Option.none (.node Option.none .leaf (.node Option.none (.node Option.none .leaf (.node Option.none (.node (some db56) .leaf .leaf) .leaf)) .leaf)) .leaf) (.node Option.none (.node Option.none (.node Option.none (.node Option.none (.node Option.none (.node (some db1) .leaf .leaf) .leaf) .leaf) .leaf) .leaf) .leaf)) .leaf)) (.node (some db13) (.node (some db43) (.node (some db44) .leaf .leaf) (.node (some db9) .leaf .leaf)) (.node (some db67) (.node (some db46) .leaf .leaf) .leaf))))), 9900⟩
def db68 : AB := (.cells [.any, .any, .int .u64 (.atom 13), .int .u64 (.atom 14)] 58)
def db69 : AB := (.cells [.int .u64 (.atom 20)] 148)
def db70 : AB := (.cells [.slc 19 0 (.lit 2) (some 2), qz, qz, qz, qz, qz, qz, qz, qz, qz, qz, qz, qz, qz, qz, qz, qz] 191)
def db71 : AB := (.cells [qi 8, .map 31] 269)
def db72 : AB := (.map [⟨qz, .ptr 40 0, 0⟩] 1 true)
def db73 : AB := (.cells [.slc 58 0 (.lit 256) (some 256), qz, qz] 389)
def db74 : AB := (.cells [qi 1, qi 2, .map 34] 535)
def db75 : AB := (.vec [.ptr 50 0, .ptr 51 0] 331)
def db76 : AB := (.cells [.ptr 24 0, .ptr 25 0, .bool true, qf, qi 1, qi 1, qf, qf, qz, qz, qf, qf, qz, qz, qf, qf, qz, qz, qf, qf, qz, qz, qf, qf, qz, qz, qf, qf, qz, qz, qf, qf, qz, qz, qf, qf, qz, qz, qf, qf, qz, qz, qf, qf, qz, qz, qf, qf, qz, qz, qf, qf, qz, qz, qf, qf, qz, qz, qf, qf, qz, qz, qf, qf, qz, qz, qf, qf, qz, qz, qf, qf, qz, qz, qf, qf, qz, qz, qf, qf, qz, qz, qf, qf, qz, qz, qf, qf, qz, qz, qf, qf, qz, qz, qf, qf, qz, qz, qf, qf, qz, qz, qf, qf, qz, qz, qf, qf, qz, qz, qf, qf, qz, qz, qf, qf, qz, qz, qf, qf, qz, qz, qf, qf, qz, qz, qf, qf, qz, qz, qf, qf, qz, qz, qf, qf, qz, qz, qf, qf, qz, qz, qf, qf, qz, qz, qf, qf, qz, qz, qf, qf, qz, qz, qf, qf, qz, qz, qf, qf, qz, qz, qf, qf, qz, qz, qf, qf, qz, qz, qf, qf, qz, qz, qf, qf, qz, qz, qf, qf, qz, qz, qf, qf, qz, qz, qf, qf, qz, qz, qf, qf, qz, qz, qf, qf, qz, qz, qf, qf, qz, qz, qf, qf, qz, qz, qf, qf, qz, qz, qf, qf, qz, qz, qf, qf, qz, qz, qf, qf, qz, qz, qf, qf, qz, qz, qf, qf, qz, qz, qf, qf, qz, qz, qf, qf, qz, qz, qf, qf, qz, qz, qf, qf, qz, qz, qf, qf, qz, qz, qf, qf, qz, qz, qf, qf, qz, qz, qf, qf, qz, qz, qf, qf, qz, qz, qf, qf, qz, qz, qf, qf, qz, qz, qf, qf, qz, qz, qf, qf, qz, qz, qf, qf, qz, qz, qf, qf, qz, qz, qf, qf, qz, qz, qf, qf, qz, qz, qf, qf, qz, qz, qf, qf, qz, qz, qf, qf, qz, qz, qf, qf, qz, qz, qf, qf, qz, qz, qf, qf, qz, qz, qf, qf, qz, qz, qf, qf, qz, qz, qf, qf, qz, qz, qf, qf, qz, qz, qf, qf, qz, qz, qf, qf, qz, qz, qf, qf, qz, qz, qf, qf, qz, qz, qf, qf, qz, qz, qf, qf, qz, qz, qf, qf, qz, qz, qf, qf, qz, qz, qf, qf, qz, qz, qf, qf, qz, qz, qf, qf, qz, qz, qf, qf, qz, qz, qf, qf, qz, qz, qf, qf, qz, qz, qf, qf, qz, qz, qf, qf, qz, qz, qf, qf, qz, qz, qf, qf, qz, qz, qf, qf, qz, qz, qf, qf, qz, qz, qf, qf, qz, qz, qf, qf, qz, qz, qf, qf, qz, qz, qf, qf, qz, qz, qf, qf, qz, qz, qf, qf, qz, qz, qf, qf, qz, qz, qf, qf, qz, qz, qf, qf, qz, qz, qf, qf, qz, qz, qf, qf, qz, qz, qf, qf, qz, qz, qf, qf, qz, qz, qf, qf, qz, qz, qf, qf, qz, qz, qf, qf, qz, qz, qf, qf, qz, qz, qf, qf, qz, qz, qf, qf, qz, qz, qf, qf, qz, qz, qf, qf, qz, qz, qf, qf, qz, qz, qf, qf, qz, qz, qf, qf, qz, qz, qf, qf, qz, qz, qf, qf, qz, qz, qf, qf, qz, qz, qf, qf, qz, qz, qf, qf, qz, qz, qf, qf, qz, qz, qf, qf, qz, qz, qf, qf, qz, qz, qf, qf, qz, qz, qf, qf, qz, qz, qf, qf, qz, qz, qf, qf, qz, qz, qf, qf, qz, qz, qf, qf, qz, qz, qf, qf, qz, qz, qf, qf, qz, qz, qf, qf, qz, qz, qf, qf, qz, qz, qf, qf, qz, qz, qf, qf, qz, qz, qf, qf, qz, qz, qf, qf, qz, qz, qf, qf, qz, qz, qf, qf, qz, qz, qf, qf, qz, qz, qf, qf, qz, qz, qf, qf, qz, qz, qf, qf, qz, qz, qf, qf, qz, qz, qf, qf, qz, qz, qf, qf, qz, qz, qf, qf, qz, qz, qf, qf, qz, qz, qf, qf, qz, qz, qf, qf, qz, qz, qf, qf, qz, qz, qf, qf, qz, qz, qf, qf, qz, qz, qf, qf, qz, qz, qf, qf, qz, qz, qf, qf, qz, qz, qf, qf, qz, qz, qf, qf, qz, qz, qf, qf, qz, qz, qf, qf, qz, qz, qf, qf, qz, qz, qf, qf, qz, qz, qf, qf, qz, qz, qf, qf, qz, qz, qf, qf, qz, qz, qf, qf, qz, qz, qf, qf, qz, qz, qf, qf, qz, qz, qf, qf, qz, qz, qf, qf, qz, qz, qf, qf, qz, qz, qf, qf, qz, qz, qf, qf, qz, qz, qf, qf, qz, qz, qf, qf, qz, qz, qf, qf, qz, qz, qf, qf, qz, qz, qf, qf, qz, qz, qf, qf, qz, qz, qf, qf, qz, qz, qf, qf, qz, qz, qf, qf, qz, qz, qf, qf, qz, qz, qf, qf, qz, qz, qf, qf, qz, qz, qf, qf, qz, qz, qf, qf, qz, qz, qf, qf, qz, qz, qf, qf, qz, qz, qf, qf, qz, qz, qf, qf, qz, qz, qf, qf, qz, qz, qf, qf, qz, qz, qf, qf, qz, qz, qf, qf, qz, qz, qf, qf, qz, qz, qf, qf, qz, qz, qf, qf, qz, qz, qf, qf, qz, qz, qf, qf, qz, qz, qf, qf, qz, qz, qf, qf, qz, qz, qf, qf, qz, qz, qf, qf, qz, qz, qf, qf, qz, qz, qf, qf, qz, qz, qf, qf, qz, qz, qf, qf, qz, qz, qf, qf, qz, qz, qf, qf, qz, qz, qf, qf, qz, qz, qf, qf, qz, qz, qf, qf, qz, qz, qf, qf, qz, qz, qf, qf, qz, qz, qf, qf, qz, qz, qf, qf, qz, qz, qf, qf, qz, qz, qf, qf, qz, qz, qf, qf, qz, qz, qf, qf, qz, qz, qf, qf, qz, qz, qf, qf, qz, qz, qf, qf, qz, qz, qf, qf, qz, qz, qf, qf, qz, qz, qf, qf, qz, qz, qf, qf, qz, qz, qf, qf, qz, qz, qf, qf, qz, qz, qf, qf, qz, qz, qf, qf, qz, qz, qf, qf, qz, qz, qf, qf, qz, qz, qf, qf, qz, qz, qf, qf, qz, qz, qf, qf, qz, qz, qf, qf, qz, qz, qf, qf, qz, qz, qf, qf, qz, qz, qf, qf, qz, qz, qf, qf, qz, qz, qf, qf, qz, qz] 248)
def db77 : AB := (.vec [.ptr 42 0, .ptr 43 0] 304)
def db78 : AB := (.cells [.slc 62 0 (.lit 64) (some 64), qz, qz] 417)
def db79 : AB := (.cells [.slc 53 0 (.lit 256) (some 256), qz, qz] 389)
def db80 : AB := (.cells [.slc 17 0 (.lit 1) Option.none, qf] 286)
def db81 : AB := (.log 5000 [] 34)
def db82 : AB := (.cells [.nils, .nils, .nils, .nils, .nils, .nils, .nils, .slc 41 0 (.lit 1) Option.none] 589)
def db83 : AB := (.cells [.slc 60 0 (.lit 64) (some 64), qz, qz] 417)
def db84 : AB := (.cells [.slc 36 0 (.lit 2) Option.none] 325)
def db85 : AB := (.cells [.ptr 27 0, .ptr 28 0, .nilp, qz, qz, qz] 266)
def db86 : AB := (.cells [.slc 32 0 (.lit 2) (some 2), .int .u64 (.lit 1), .int .u64 (.lit 2)] 500)
def db87 : AB := (.vec [.ptr 46 0, .ptr 47 0] 304)
def db88 : AB := (.cells (.int .u64 (.atom 11) :: nilsN 512 [qu, qu, qu, qu, qu, qu, qu, qu, .map 56, qz]) 415)
def db89 : AB := (.cells [.ptr 3 0, .ptr 4 0, .ptr 5 0, .ptr 6 0, .nilp, .nilp, .nilp, .nilp, .nilp, .nilp, .nilp, .nilp, .nilp, .nilp, .nilp, .nilp, .nilp, .nilp, .ptr 7 0, .nilm, .ptr 8 0, .slc 9 0 (.atom 5000) Option.none, qz, .nilp, .nilp, .nilp, .nilp, .nilp, .nilp, .nilp, .nilp, .nilp, .nilp, .nilp, .nilp, .nilp, .nilp, .nilp, .nilp, .nilp, .nilp, .nilp, .nilp, .nilp, .nilp, .nilp, .nilp, .nilp, .nilp, .nilp, .nilp, .nilp, .nilp, .nilp, .nilp, .nils, qi 2] 99)
def db90 : AB := (.cells [qi 2, .ptr 10 0, qf, .nilp, qf, .nilp, qf, .nilp, qf, .ptr 11 0, .ptr 12 0, .ptr 13 0, .ptr 14 0, .ptr 15 0, .map 16] 177)
def db91 : AB := (.cells [.slc 20 0 (.lit 16) (some 16), qz, qz, qz, qz, qz, qz, qz, qz, qz, qz, qz, qz, qz, qz, qz, qz] 188)
def db92 : AB := (.cells [.slc 59 0 (.lit 64) (some 64), qz, qz] 417)
def db93 : AB := (.cells [.slc 35 0 (.lit 2) Option.none, qz, qz, qz, qz, qz, qz, qz, qz, qz, qz, qz, qz, qz, qz, qz, qz, qz, qz, qz, qz, qz, qz, qz, qz, qz, qz, qz, qz, qz, qz, qz, qz, qz, qz, qz, qz, qz, qz, qz, qz, qz, qz, qz, qz, qz, qz, qz, qz, qz, qz, qz, qz, qz, qz, qz, qz, qz, qz, qz, qz, qz, qz, qz, qz, qz, qz, qz, qz, qz, qz, qz, qz, qz, qz, qz, qz, qz, qz, qz, qz, qz, qz, qz, qz, qz, qz, qz, qz, qz, qz, qz, qz, qz, qz, qz, qz, qz, qz, qz, qz, qz, qz, qz, qz, qz, qz, qz, qz, qz, qz, qz, qz, qz, qz, qz, qz, qz, qz, qz, qz, qz, qz, qz, qz, qz, qz, qz, qz, qz, qz, qz, qz, qz, qz, qz, qz, qz, qz, qz, qz, qz, qz, qz, qz, qz, qz, qz, qz, qz, qz, qz, qz, qz, qz, qz, qz, qz, qz, qz, qz, qz, qz, qz, qz, qz, qz, qz, qz, qz, qz, qz, qz, qz, qz, qz, qz, qz, qz, qz, qz, qz, qz, qz, qz, qz, qz, qz, qz, qz, qz, qz, qz, qz, qz, qz, qz, qz, qz, qz, qz, qz, qz, qz, qz, qz, qz, qz, qz, qz, qz, qz, qz, qz, qz, qz, qz, qz, qz, qz, qz, qz, qz, qz, qz, qz, qz, qz, qz, qz, qz, qz, qz, qz, qz, qz, qz, qz, qz, qz, qz, qz, qz, qz, qz, qz, qz, qz, qz, qz, qz, qz, qz, qz, qz, qz, qz, qz, qz, qz, qz, qz, qz, qz, qz, qz, qz, qz, qz, qz, qz, qz, qz, qz, qz, qz, qz, qz, qz, qz, qz, qz, qz, qz, qz, qz, qz, qz, qz] 320)
def db94 : AB := (.cells [.ptr 26 0, qi 2, qf, qz, qf, qz, qf, qz, qf, qz, qf, qz, qf, qz, qf, qz, qf, qz, qf, qz, qf, qz, qf, qz, qf, qz, qf, qz, qf, qz, qf, qz, qf, qz, qf, qz, qf, qz, qf, qz, qf, qz, qf, qz, qf, qz, qf, qz, qf, qz, qf, qz, qf, qz, qf, qz, qf, qz, qf, qz, qf, qz, qf, qz, qf, qz, qf, qz, qf, qz, qf, qz, qf, qz, qf, qz, qf, qz, qf, qz, qf, qz, qf, qz, qf, qz, qf, qz, qf, qz, qf, qz, qf, qz, qf, qz, qf, qz, qf, qz, qf, qz, qf, qz, qf, qz, qf, qz, qf, qz, qf, qz, qf, qz, qf, qz, qf, qz, qf, qz, qf, qz, qf, qz, qf, qz, qf, qz, qf, qz, qf, qz, qf, qz, qf, qz, qf, qz, qf, qz, qf, qz, qf, qz, qf, qz, qf, qz, qf, qz, qf, qz, qf, qz, qf, qz, qf, qz, qf, qz, qf, qz, qf, qz, qf, qz, qf, qz, qf, qz, qf, qz, qf, qz, qf, qz, qf, qz, qf, qz, qf, qz, qf, qz, qf, qz, qf, qz, qf, qz, qf, qz, qf, qz, qf, qz, qf, qz, qf, qz, qf, qz, qf, qz, qf, qz, qf, qz, qf, qz, qf, qz, qf, qz, qf, qz, qf, qz, qf, qz, qf, qz, qf, qz, qf, qz, qf, qz, qf, qz, qf, qz, qf, qz, qf, qz, qf, qz, qf, qz, qf, qz, qf, qz, qf, qz, qf, qz, qf, qz, qf, qz, qf, qz, qf, qz, qf, qz, qf, qz, qf, qz, qf, qz, qf, qz, qf, qz, qf, qz, qf, qz, qf, qz, qf, qz, qf, qz, qf, qz, qf, qz, qf, qz, qf, qz, qf, qz, qf, qz, qf, qz, qf, qz, qf, qz, qf, qz, qf, qz, qf, qz, qf, qz, qf, qz, qf, qz, qf, qz, qf, qz, qf, qz, qf, qz, qf, qz, qf, qz, qf, qz, qf, qz, qf, qz, qf, qz, qf, qz, qf, qz, qf, qz, qf, qz, qf, qz, qf, qz, qf, qz, qf, qz, qf, qz, qf, qz, qf, qz, qf, qz, qf, qz, qf, qz, qf, qz, qf, qz, qf, qz, qf, qz, qf, qz, qf, qz, qf, qz, qf, qz, qf, qz, qf, qz, qf, qz, qf, qz, qf, qz, qf, qz, qf, qz, qf, qz, qf, qz, qf, qz, qf, qz, qf, qz, qf, qz, qf, qz, qf, qz, qf, qz, qf, qz, qf, qz, qf, qz, qf, qz, qf, qz, qf, qz, qf, qz, qf, qz, qf, qz, qf, qz, qf, qz, qf, qz, qf, qz, qf, qz, qf, qz, qf, qz, qf, qz, qf, qz, qf, qz, qf, qz, qf, qz, qf, qz, qf, qz, qf, qz, qf, qz, qf, qz, qf, qz, qf, qz, qf, qz, qf, qz, qf, qz, qf, qz, qf, qz, qf, qz, qf, qz, qf, qz, qf, qz, qf, qz, qf, qz, qf, qz, qf, qz, qf, qz, qf, qz, qf, qz, qf, qz, qf, qz, qf, qz, qf, qz, qf, qz, qf, qz, qf, qz, qf, qz, qf, qz, qf, qz, qf, qz, qz, qz, qz, qz, qz, qz, qz, qz, qz, qz, qz, qz, qz, qz, qz, qz, qz, qz, qz, qz, qz, qz, qz, qz, qz, qz, qz, qz, qz, qz, qz, qz] 254)
def db95 : AB := (.vec [.ptr 44 0, .ptr 45 0] 326)
def db96 : AB := (.cells [.slc 38 0 (.lit 2) Option.none, qz] 330)
def db97 : AB := (.sel (.int .u64 (.atom 10) :: nilsN 512 [qu, qu, qu, qu, qu, qu, qu, qu, .map 55, qi 1]) 1 520 [(60, .slc 54 0 (.lit 1) Option.none), (61, .int .u64 (.atom 71)), (62, .int .u64 (.atom 72)), (63, .int .u64 (.atom 73)), (64, .int .u64 (.atom 74)), (65, .int .u64 (.atom 75)), (66, .int .u64 (.atom 76)), (67, .int .u64 (.atom 77)), (68, .int .u64 (.atom 78))] 415)
def db98 : AB := (.cells [.slc 18 0 (.lit 16) Option.none, qf] 286)
def db99 : AB := (.cells [qi 1, qi 1, qi 1, .ptr 21 0, .ptr 22 0, .ptr 23 0, qf] 425)
def db100 : AB := (.cells [.slc 61 0 (.lit 64) (some 64), qz, qz] 417)
def db101 : AB := (.cells [.slc 37 0 (.lit 2) Option.none, qz, qz, qz, qz, qz, qz, qz, qz, qz, qz, qz, qz, qz, qz, qz, qz, qz, qz, qz, qz, qz, qz, qz, qz, qz, qz, qz, qz, qz, qz, qz, qz, qz, qz, qz, qz, qz, qz, qz, qz, qz, qz, qz, qz, qz, qz, qz, qz, qz, qz, qz, qz, qz, qz, qz, qz, qz, qz, qz, qz, qz, qz, qz, qz, qz, qz, qz, qz, qz, qz, qz, qz, qz, qz, qz, qz, qz, qz, qz, qz, qz, qz, qz, qz, qz, qz, qz, qz, qz, qz, qz, qz, qz, qz, qz, qz, qz, qz, qz, qz, qz, qz, qz, qz, qz, qz, qz, qz, qz, qz, qz, qz, qz, qz, qz, qz, qz, qz, qz, qz, qz, qz, qz, qz, qz, qz, qz, qz, qz, qz, qz, qz, qz, qz, qz, qz, qz, qz, qz, qz, qz, qz, qz, qz, qz, qz, qz, qz, qz, qz, qz, qz, qz, qz, qz, qz, qz, qz, qz, qz, qz, qz, qz, qz, qz, qz, qz, qz, qz, qz, qz, qz, qz, qz, qz, qz, qz, qz, qz, qz, qz, qz, qz, qz, qz, qz, qz, qz, qz, qz, qz, qz, qz, qz, qz, qz, qz, qz, qz, qz, qz, qz, qz, qz, qz, qz, qz, qz, qz, qz, qz, qz, qz, qz, qz, qz, qz, qz, qz, qz, qz, qz, qz, qz, qz, qz, qz, qz, qz, qz, qz, qz, qz, qz, qz, qz, qz, qz, qz, qz, qz, qz, qz, qz, qz, qz, qz, qz, qz, qz, qz, qz, qz, qz, qz, qz, qz, qz, qz, qz, qz, qz, qz, qz, qz, qz, qz, qz, qz, qz, qz, qz, qz, qz, qz, qz, qz, qz, qz, qz, qz, qz, qz, qz, qz, qz, qz, qz] 320)
def db102 : AB := (.cells [.ptr 29 0, .ptr 30 0, .nilp, qz, qz, qz] 266)
def db103 : AB := (.cells [.slc 33 0 (.lit 8) (some 8), qi 1, qi 1] 532)
def db104 : AB := (.vec [.ptr 48 0, .ptr 49 0] 331)
def db105 : AB := (.cells [.slc 39 0 (.lit 2) Option.none, qz] 330)
def db106 : AB := (.cells [.slc 57 0 (.lit 256) (some 256), qz, qz] 389)
def hR0S : St := ⟨(.node (some db0) (.node (some db68) (.node (some db69) (.node (some db70) (.node (some db71) (.node (some db72) .leaf .leaf) (.node (some db73) .leaf .leaf)) (.node (some db74) (.node (some db75) .leaf .leaf) (.node (some db62) .leaf .leaf))) (.node (some db76) (.node (some db4) (.node (some db77) .leaf .leaf) (.node (some db78) .leaf .leaf)) (.node (some db7) (.node (some db79) .leaf .leaf) (.node (some db9) .leaf .leaf)))) (.node (some db80) (.node (some db81) (.node (some db48) (.node (some db82) .leaf .leaf) (.node (some db83) .leaf .leaf)) (.node (some db84) (.node (some db34) .leaf .leaf) (.node (some db6) .leaf .leaf))) (.node (some db85) (.node (some db86) (.node (some db87) .leaf .leaf) (.node (some db6) .leaf .leaf)) (.node (some db63) (.node (some db88) .leaf .leaf) (.node (some db9) .leaf .leaf))))) (.node (some db89) (.node (some db90) (.node (some db91) (.node (some db13) (.node (some db35) .leaf .leaf) (.node (some db92) .leaf .leaf)) (.node (some db93) (.node (some db65) .leaf .leaf) (.node (some db13) .leaf .leaf))) (.node (some db94) (.node (some db28) (.node (some db95) .leaf .leaf) (.node (some db6) .leaf .leaf)) (.node (some db96) (.node (some db97) .leaf .leaf) (.node (some db9) .leaf .leaf)))) (.node (some db98) (.node (some db99) (.node (some db1) (.node (some db67) .leaf .leaf) (.node (some db100) .leaf .leaf)) (.node (some db101) (.node (some db42) .leaf .leaf) (.node (some db6) .leaf .leaf))) (.node (some db102) (.node (some db103) (.node (some db104) .leaf .leaf) (.node (some db66) .leaf .leaf)) (.node (some db105) (.node (some db106) .leaf .leaf) (.node (some db9) .leaf .leaf)))))), 200⟩
def hR0A : A := ⟨[.mk (.int .u64 (.atom 9)) .dead .dead .dead (.top 80 (.atom 35)) .dead .dead .dead, .mk .dead .dead qf (.ptr 0 0) .dead .dead .dead qz, .mk (.ptr 1 0) .dead qz .dead qf (.int .i64 (.atom 30)) .dead .dead, d8, d8, d8, d8, d8, d8, d8, d8, d8, d8, d8, d8, d8, d8, d8, d8, d8, d8, d8, d8, d8, d8, d8, d8, d8, d8, d8, d8, d8], []⟩
def dR0t : List (Nat × Nat) := [(0, 0), (1, 9900), (2, 2), (3, 3), (4, 4), (5, 332), (6, 2091), (7, 5), (8, 6), (9, 9899), (10, 8), (11, 9), (12, 10), (13, 11), (14, 12), (15, 13), (16, 14), (17, 331), (18, 2090), (19, 15), (20, 16), (21, 17), (22, 18), (23, 19), (24, 20), (25, 21), (26, 22), (27, 23), (28, 24), (29, 25), (30, 26), (31, 27), (32, 28), (33, 29), (34, 30), (35, 31), (36, 32), (37, 33), (38, 34), (39, 35), (40, 6920), (41, 36), (42, 37), (43, 38), (44, 39), (45, 40), (46, 41), (47, 42), (48, 43), (49, 44), (50, 45), (51, 46), (52, 47), (53, 48), (54, 8596), (55, 49), (56, 50), (57, 51), (58, 52), (59, 53), (60, 54), (61, 55), (62, 56)]
def dL0t : List SV := [.int .u64 (.atom 9), .int .i64 (.lit 0), .int .i64 (.lit 7), .int .i64 (.lit 0), .int .u64 (.lit 0), .int .u64 (.atom 9), .int .i64 (.lit 0), .int .i64 (.lit 9), .int .i64 (.lit 0), .int .u64 (.lit 0), .int .u64 (.atom 9), .int .i64 (.lit 0), .int .i64 (.lit 6), .int .i64 (.lit 0), .int .u64 (.lit 0), .int .u64 (.atom 9), .int .i64 (.lit 0), .int .i64 (.lit 6), .int .i64 (.lit 0), .int .u64 (.lit 1), .int .u64 (.atom 9), .int .i64 (.lit 0), .int .i64 (.lit 8), .int .i64 (.lit 0), .int .u64 (.lit 0), .int .u64 (.atom 9), .int .i64 (.lit 3), .int .i64 (.lit 0), .int .i64 (.lit 1), .int .u64 (.lit 0), .int .u64 (.atom 9), .int .i64 (.lit 5), .int .i64 (.lit 0), .int .i64 (.lit 192), .int .u64 (.lit 1), .int .u64 (.atom 9), .int .i64 (.lit 5), .int .i64 (.lit 0), .int .i64 (.lit 384), .int .u64 (.lit 0), .int .u64 (.atom 9), .int .i64 (.lit 0), .int .i64 (.lit 1), .int .i64 (.lit 0), .int .u64 (.lit 0), .int .u64 (.atom 9), .int .i64 (.lit 5), .int .i64 (.lit 0), .int .i64 (.lit 448), .int .u64 (.lit 0), .int .u64 (.atom 9), .int .i64 (.lit 5), .int .i64 (.lit 0), .int .i64 (.lit 512), .int .u64 (.lit 0), .int .u64 (.atom 9), .int .i64 (.lit 4), .int .i64 (.lit 0), .int .i64 (.lit 0), .int .u64 (.lit 0), .int .u64 (.atom 9), .int .i64 (.lit 0), .int .i64 (.lit 1), .int .i64 (.lit 0), .int .u64 (.lit 0)]
def dB1tS : St := dB0tS
def dR1t : List (Nat × Nat) := dR0t
def dL1t : List SV := dL0t
def db107 : AB := (.sel (.int .u64 (.atom 9) :: nilsN 512 [qu, qu, qu, qu, qu, qu, qu, qu, .map 50, qi 1]) 1 520 [(60, .slc 8596 0 (.lit 1) Option.none), (61, .int .u64 (.atom 71)), (62, .int .u64 (.atom 72)), (63, .int .u64 (.atom 73)), (64, .int .u64 (.atom 74)), (65, .int .u64 (.atom 75)), (66, .int .u64 (.atom 76)), (67, .int .u64 (.atom 77)), (68, .int .u64 (.atom 78))] 415)
def dB2tS : St := ⟨(.node (some db0) (.node (some db1) (.node (some db2) (.node Option.none (.node (some db4) (.node (some db5) .leaf .leaf) (.node (some db6) .leaf .leaf)) (.node (some db7) (.node (some db8) .leaf .leaf) (.node (some db9) .leaf .leaf))) (.node (some db10) (.node (some db58) (.node (some db12) .leaf .leaf) (.node (some db6) .leaf .leaf)) (.node (some db59) (.node (some db14) (.node Option.none (.node Option.none .leaf (.node Option.none (.node Option.none .leaf (.node Option.none (.node (some db55) .leaf .leaf) .leaf)) .leaf)) (.node Option.none (.node (some db48) .leaf .leaf) .leaf)) (.node Option.none (.node Option.none (.node Option.none (.node Option.none (.node Option.none (.node (some db53) .leaf .leaf) .leaf) .leaf) .leaf) (.node Option.none (.node Option.none .leaf (.node Option.none .leaf (.node Option.none (.node Option.none (.node (some db60) .leaf .leaf) .leaf) .leaf))) .leaf)) .leaf)) .leaf))) (.node (some db15) (.node (some db61) (.node (some db17) (.node (some db18) .leaf .leaf) (.node (some db13) .leaf .leaf)) (.node (some db63) (.node (some db19) (.node Option.none (.node Option.none .leaf (.node Option.none (.node Option.none .leaf (.node Option.none (.node (some db56) .leaf .leaf) .leaf)) .leaf)) (.node (some db47) .leaf .leaf)) .leaf) .leaf)) (.node (some db20) (.node (some db21) (.node (some db22) .leaf .leaf) (.node (some db9) .leaf .leaf)) (.node (some db23) (.node (some db24) .leaf .leaf) .leaf)))) (.node (some db64) (.node (some db26) (.node (some db27) (.node (some db28) (.node (some db29) .leaf .leaf) (.node (some db6) .leaf .leaf)) (.node (some db30) (.node (some db107) (.node Option.none (.node Option.none (.node Option.none .leaf (.node Option.none .leaf (.node Option.none (.node Option.none .leaf (.node (some db65) .leaf .leaf)) .leaf))) .leaf) (.node (some db47) .leaf .leaf)) .leaf) (.node (some db9) .leaf .leaf))) (.node (some db32) (.node (some db33) (.node (some db34) .leaf .leaf) (.node (some db6) (.node Option.none (.node Option.none .leaf (.node Option.none .leaf (.node Option.none (.node Option.none (.node Option.none (.node Option.none (.node (some db66) .leaf .leaf) .leaf) .leaf) .leaf) .leaf))) .leaf) .leaf)) (.node (some db35) (.node (some db36) (.node Option.none .leaf (.node Option.none (.node (some db51) .leaf .leaf) .leaf)) .leaf) .leaf))) (.node (some db37) (.node (some db38) (.node (some db39) (.node (some db40) .leaf .leaf) (.node (some db62) .leaf .leaf)) (.node (some db41) (.node (some db42) (.node Option.none (.node Option.none .leaf (.node Option.none (.node Option.none .leaf (.node Option.none (.node (some db56) .leaf .leaf) .leaf)) .leaf)) .leaf) (.node Option.none (.node Option.none (.node Option.none (.node Option.none (.node Option.none (.node (some db1) .leaf .leaf) .leaf) .leaf) .leaf) .leaf) .leaf)) .leaf)) (.node (some db13) (.node (some db43) (.node (some db44) .leaf .leaf) (.node (some db9) .leaf .leaf)) (.node (some db67) (.node (some db46) .leaf .leaf) .leaf))))), 9900⟩
def db108 : AB := (.sel (.int .u64 (.atom 11) :: nilsN 512 [qu, qu, qu, qu, qu, qu, qu, qu, .map 56, qi 1]) 1 520 [(60, .slc 55 0 (.lit 1) Option.none), (61, .int .u64 (.atom 71)), (62, .int .u64 (.atom 72)), (63, .int .u64 (.atom 73)), (64, .int .u64 (.atom 74)), (65, .int .u64 (.atom 75)), (66, .int .u64 (.atom 76)), (67, .int .u64 (.atom 77)), (68, .int .u64 (.atom 78))] 415)
def db109 : AB := (.cells (.int .u64 (.atom 10) :: nilsN 512 [qu, qu, qu, qu, qu, qu, qu, qu, .map 54, qz]) 415)
def hR1S : St := ⟨(.node (some db0) (.node (some db68) (.node (some db69) (.node (some db70) (.node (some db71) (.node (some db72) .leaf .leaf) (.node (some db73) .leaf .leaf)) (.node (some db74) (.node (some db75) .leaf .leaf) (.node (some db66) .leaf .leaf))) (.node (some db76) (.node (some db4) (.node (some db77) .leaf .leaf) (.node (some db78) .leaf .leaf)) (.node (some db7) (.node (some db79) .leaf .leaf) (.node (some db9) .leaf .leaf)))) (.node (some db80) (.node (some db81) (.node (some db48) (.node (some db82) .leaf .leaf) (.node (some db83) .leaf .leaf)) (.node (some db84) (.node (some db34) .leaf .leaf) (.node (some db6) .leaf .leaf))) (.node (some db85) (.node (some db86) (.node (some db87) .leaf .leaf) (.node (some db6) .leaf .leaf)) (.node (some db63) (.node (some db108) .leaf .leaf) (.node (some db9) .leaf .leaf))))) (.node (some db89) (.node (some db90) (.node (some db91) (.node (some db13) (.node (some db35) .leaf .leaf) (.node (some db92) .leaf .leaf)) (.node (some db93) (.node (some db65) .leaf .leaf) (.node (some db62) .leaf .leaf))) (.node (some db94) (.node (some db28) (.node (some db95) .leaf .leaf) (.node (some db6) .leaf .leaf)) (.node (some db96) (.node (some db109) .leaf .leaf) (.node (some db9) .leaf .leaf)))) (.node (some db98) (.node (some db99) (.node (some db1) (.node (some db67) .leaf .leaf) (.node (some db100) .leaf .leaf)) (.node (some db101) (.node (some db42) .leaf .leaf) (.node (some db6) .leaf .leaf))) (.node (some db102) (.node (some db103) (.node (some db104) .leaf .leaf) (.node (some db13) .leaf .leaf)) (.node (some db105) (.node (some db106) .leaf .leaf) (.node (some db9) .leaf .leaf)))))), 200⟩
def hR1A : A := ⟨[.mk (.int .u64 (.atom 9)) .dead .dead .dead (.top 80 (.atom 35)) .dead .dead .dead, .mk .dead .dead qf (.ptr 0 0) .dead .dead .dead qz, .mk (.ptr 1 0) .dead (qi 1) .dead qf (.int .i64 (.atom 30)) .dead .dead, d8, d8, d8, d8, d8, d8, d8, d8, d8, d8, d8, d8, d8, d8, d8, d8, d8, d8, d8, d8, d8, d8, d8, d8, d8, d8, d8, d8, d8], []⟩
def dR2t : List (Nat × Nat) := [(0, 0), (1, 9900), (2, 2), (3, 3), (4, 4), (5, 332), (6, 2091), (7, 5), (8, 6), (9, 9899), (10, 8), (11, 9), (12, 10), (13, 11), (14, 12), (15, 13), (16, 14), (17, 331), (18, 2090), (19, 15), (20, 16), (21, 17), (22, 18), (23, 19), (24, 20), (25, 21), (26, 22), (27, 23), (28, 24), (29, 25), (30, 26), (31, 27), (32, 28), (33, 29), (34, 30), (35, 31), (36, 32), (37, 33), (38, 34), (39, 35), (40, 6920), (41, 36), (42, 37), (43, 38), (44, 39), (45, 40), (46, 41), (47, 42), (48, 43), (49, 44), (50, 45), (51, 46), (52, 47), (53, 48), (54, 49), (55, 8596), (56, 50), (57, 51), (58, 52), (59, 53), (60, 54), (61, 55), (62, 56)]
def dL2t : List SV := dL0t
def db110 : AB := (.vec [.int .u64 (.atom 9), qz, qi 7, qz, qu, .int .u64 (.atom 9), qz, qi 9, qz, qu, .int .u64 (.atom 9), qz, qi 6, qz, qu, .int .u64 (.atom 9), qz, qi 6, qz, .int .u64 (.lit 1), .int .u64 (.atom 9), qz, qi 8, qz, qu, .int .u64 (.atom 9), qi 3, qz, qi 1, qu, .int .u64 (.atom 9), qi 5, qz, qi 192, .int .u64 (.lit 1), .int .u64 (.atom 9), qi 5, qz, qi 384, qu, .int .u64 (.atom 9), qz, qi 1, qz, qu, .int .u64 (.atom 9), qi 5, qz, qi 448, qu, .int .u64 (.atom 9), qi 5, qz, qi 512, .int .u64 (.lit 18446744073709551604), .int .u64 (.atom 9), qi 4, qz, qz, .int .u64 (.lit 18446744073709551604), .int .u64 (.atom 9), qz, qi 1, qz, qu] 34)
def db111 : AB := (.cells [.ptr 20 0, .ptr 21 0, .bool true, qf, qi 1, qz, qf, qf, qz, qz, qf, qf, qz, qz, qf, qf, qz, qz, qf, qf, qz, qz, qf, qf, qz, qz, qf, qf, qz, qz, qf, qf, qz, qz, qf, qf, qz, qz, qf, qf, qz, qz, qf, qf, qz, qz, qf, qf, qz, qz, qf, qf, qz, qz, qf, qf, qz, qz, qf, qf, qz, qz, qf, qf, qz, qz, qf, qf, qz, qz, qf, qf, qz, qz, qf, qf, qz, qz, qf, qf, qz, qz, qf, qf, qz, qz, qf, qf, qz, qz, qf, qf, qz, qz, qf, qf, qz, qz, qf, qf, qz, qz, qf, qf, qz, qz, qf, qf, qz, qz, qf, qf, qz, qz, qf, qf, qz, qz, qf, qf, qz, qz, qf, qf, qz, qz, qf, qf, qz, qz, qf, qf, qz, qz, qf, qf, qz, qz, qf, qf, qz, qz, qf, qf, qz, qz, qf, qf, qz, qz, qf, qf, qz, qz, qf, qf, qz, qz, qf, qf, qz, qz, qf, qf, qz, qz, qf, qf, qz, qz, qf, qf, qz, qz, qf, qf, qz, qz, qf, qf, qz, qz, qf, qf, qz, qz, qf, qf, qz, qz, qf, qf, qz, qz, qf, qf, qz, qz, qf, qf, qz, qz, qf, qf, qz, qz, qf, qf, qz, qz, qf, qf, qz, qz, qf, qf, qz, qz, qf, qf, qz, qz, qf, qf, qz, qz, qf, qf, qz, qz, qf, qf, qz, qz, qf, qf, qz, qz, qf, qf, qz, qz, qf, qf, qz, qz, qf, qf, qz, qz, qf, qf, qz, qz, qf, qf, qz, qz, qf, qf, qz, qz, qf, qf, qz, qz, qf, qf, qz, qz, qf, qf, qz, qz, qf, qf, qz, qz, qf, qf, qz, qz, qf, qf, qz, qz, qf, qf, qz, qz, qf, qf, qz, qz, qf, qf, qz, qz, qf, qf, qz, qz, qf, qf, qz, qz, qf, qf, qz, qz, qf, qf, qz, qz, qf, qf, qz, qz, qf, qf, qz, qz, qf, qf, qz, qz, qf, qf, qz, qz, qf, qf, qz, qz, qf, qf, qz, qz, qf, qf, qz, qz, qf, qf, qz, qz, qf, qf, qz, qz, qf, qf, qz, qz, qf, qf, qz, qz, qf, qf, qz, qz, qf, qf, qz, qz, qf, qf, qz, qz, qf, qf, qz, qz, qf, qf, qz, qz, qf, qf, qz, qz, qf, qf, qz, qz, qf, qf, qz, qz, qf, qf, qz, qz, qf, qf, qz, qz, qf, qf, qz, qz, qf, qf, qz, qz, qf, qf, qz, qz, qf, qf, qz, qz, qf, qf, qz, qz, qf, qf, qz, qz, qf, qf, qz, qz, qf, qf, qz, qz, qf, qf, qz, qz, qf, qf, qz, qz, qf, qf, qz, qz, qf, qf, qz, qz, qf, qf, qz, qz, qf, qf, qz, qz, qf, qf, qz, qz, qf, qf, qz, qz, qf, qf, qz, qz, qf, qf, qz, qz, qf, qf, qz, qz, qf, qf, qz, qz, qf, qf, qz, qz, qf, qf, qz, qz, qf, qf, qz, qz, qf, qf, qz, qz, qf, qf, qz, qz, qf, qf, qz, qz, qf, qf, qz, qz, qf, qf, qz, qz, qf, qf, qz, qz, qf, qf, qz, qz, qf, qf, qz, qz, qf, qf, qz, qz, qf, qf, qz, qz, qf, qf, qz, qz, qf, qf, qz, qz, qf, qf, qz, qz, qf, qf, qz, qz, qf, qf, qz, qz, qf, qf, qz, qz, qf, qf, qz, qz, qf, qf, qz, qz, qf, qf, qz, qz, qf, qf, qz, qz, qf, qf, qz, qz, qf, qf, qz, qz, qf, qf, qz, qz, qf, qf, qz, qz, qf, qf, qz, qz, qf, qf, qz, qz, qf, qf, qz, qz, qf, qf, qz, qz, qf, qf, qz, qz, qf, qf, qz, qz, qf, qf, qz, qz, qf, qf, qz, qz, qf, qf, qz, qz, qf, qf, qz, qz, qf, qf, qz, qz, qf, qf, qz, qz, qf, qf, qz, qz, qf, qf, qz, qz, qf, qf, qz, qz, qf, qf, qz, qz, qf, qf, qz, qz, qf, qf, qz, qz, qf, qf, qz, qz, qf, qf, qz, qz, qf, qf, qz, qz, qf, qf, qz, qz, qf, qf, qz, qz, qf, qf, qz, qz, qf, qf, qz, qz, qf, qf, qz, qz, qf, qf, qz, qz, qf, qf, qz, qz, qf, qf, qz, qz, qf, qf, qz, qz, qf, qf, qz, qz, qf, qf, qz, qz, qf, qf, qz, qz, qf, qf, qz, qz, qf, qf, qz, qz, qf, qf, qz, qz, qf, qf, qz, qz, qf, qf, qz, qz, qf, qf, qz, qz, qf, qf, qz, qz, qf, qf, qz, qz, qf, qf, qz, qz, qf, qf, qz, qz, qf, qf, qz, qz, qf, qf, qz, qz, qf, qf, qz, qz, qf, qf, qz, qz, qf, qf, qz, qz, qf, qf, qz, qz, qf, qf, qz, qz, qf, qf, qz, qz, qf, qf, qz, qz, qf, qf, qz, qz, qf, qf, qz, qz, qf, qf, qz, qz, qf, qf, qz, qz, qf, qf, qz, qz, qf, qf, qz, qz, qf, qf, qz, qz, qf, qf, qz, qz, qf, qf, qz, qz, qf, qf, qz, qz, qf, qf, qz, qz, qf, qf, qz, qz, qf, qf, qz, qz, qf, qf, qz, qz, qf, qf, qz, qz, qf, qf, qz, qz, qf, qf, qz, qz, qf, qf, qz, qz, qf, qf, qz, qz, qf, qf, qz, qz, qf, qf, qz, qz, qf, qf, qz, qz, qf, qf, qz, qz, qf, qf, qz, qz, qf, qf, qz, qz, qf, qf, qz, qz, qf, qf, qz, qz, qf, qf, qz, qz, qf, qf, qz, qz, qf, qf, qz, qz, qf, qf, qz, qz, qf, qf, qz, qz, qf, qf, qz, qz, qf, qf, qz, qz, qf, qf, qz, qz, qf, qf, qz, qz, qf, qf, qz, qz, qf, qf, qz, qz, qf, qf, qz, qz, qf, qf, qz, qz, qf, qf, qz, qz, qf, qf, qz, qz, qf, qf, qz, qz, qf, qf, qz, qz, qf, qf, qz, qz, qf, qf, qz, qz, qf, qf, qz, qz, qf, qf, qz, qz, qf, qf, qz, qz, qf, qf, qz, qz, qf, qf, qz, qz, qf, qf, qz, qz, qf, qf, qz, qz, qf, qf, qz, qz, qf, qf, qz, qz, qf, qf, qz, qz, qf, qf, qz, qz, qf, qf, qz, qz] 248)
def db112 : AB := (.cells [.ptr 3 0, .ptr 4 0, .ptr 332 0, .ptr 2091 0, .nilp, .nilp, .nilp, .nilp, .nilp, .nilp, .nilp, .nilp, .nilp, .nilp, .nilp, .nilp, .nilp, .nilp, .ptr 5 0, .nilm, .ptr 6 0, .slc 8755 0 (.lit 13) Option.none, qz, .nilp, .nilp, .nilp, .nilp, .nilp, .nilp, .nilp, .nilp, .nilp, .nilp, .nilp, .nilp, .nilp, .nilp, .nilp, .nilp, .nilp, .nilp, .nilp, .nilp, .nilp, .nilp, .nilp, .nilp, .nilp, .nilp, .nilp, .nilp, .nilp, .nilp, .nilp, .nilp, .nils, qi 2] 99)
def dB0fS : St := ⟨(.node (some db0) (.node (some db1) (.node (some db2) (.node Option.none (.node (some db4) (.node (some db5) .leaf .leaf) (.node (some db6) .leaf .leaf)) (.node (some db7) (.node (some db8) .leaf .leaf) (.node (some db9) .leaf .leaf))) (.node (some db10) (.node (some db58) (.node (some db12) .leaf .leaf) (.node (some db6) .leaf (.node Option.none (.node Option.none (.node Option.none (.node Option.none .leaf (.node Option.none (.node Option.none (.node Option.none (.node (some db110) .leaf .leaf) .leaf) .leaf) .leaf)) .leaf) .leaf) .leaf))) (.node (some db59) (.node (some db14) (.node Option.none (.node Option.none .leaf (.node Option.none (.node Option.none .leaf (.node Option.none (.node (some db55) .leaf .leaf) .leaf)) .leaf)) (.node Option.none (.node (some db48) .leaf .leaf) .leaf)) (.node Option.none (.node Option.none (.node Option.none (.node Option.none (.node Option.none (.node (some db53) .leaf .leaf) .leaf) .leaf) .leaf) .leaf) .leaf)) .leaf))) (.node (some db15) (.node (some db111) (.node (some db17) (.node (some db18) .leaf .leaf) (.node (some db13) .leaf .leaf)) (.node (some db63) (.node (some db19) (.node Option.none (.node Option.none .leaf (.node Option.none (.node Option.none .leaf (.node Option.none (.node (some db56) .leaf .leaf) .leaf)) .leaf)) (.node (some db47) .leaf .leaf)) .leaf) .leaf)) (.node (some db20) (.node (some db21) (.node (some db22) .leaf .leaf) (.node (some db9) .leaf .leaf)) (.node (some db23) (.node (some db24) .leaf .leaf) .leaf)))) (.node (some db112) (.node (some db26) (.node (some db27) (.node (some db28) (.node (some db29) .leaf .leaf) (.node (some db6) .leaf .leaf)) (.node (some db30) (.node (some db31) (.node Option.none (.node Option.none (.node Option.none .leaf (.node Option.none .leaf (.node Option.none (.node Option.none .leaf (.node (some db65) .leaf .leaf)) .leaf))) .leaf) (.node (some db47) .leaf .leaf)) .leaf) (.node (some db9) .leaf .leaf))) (.node (some db32) (.node (some db33) (.node (some db34) .leaf .leaf) (.node (some db6) .leaf .leaf)) (.node (some db35) (.node (some db36) (.node Option.none .leaf (.node Option.none (.node (some db51) .leaf .leaf) .leaf)) .leaf) .leaf))) (.node (some db37) (.node (some db38) (.node (some db39) (.node (some db40) .leaf .leaf) (.node (some db13) .leaf .leaf)) (.node (some db41) (.node (some db42) (.node Option.none (.node Option.none .leaf (.node Option.none (.node Option.none .leaf (.node Option.none (.node (some db56) .leaf .leaf) .leaf)) .leaf)) .leaf) (.node Option.none (.node Option.none (.node Option.none (.node Option.none (.node Option.none (.node (some db1) .leaf .leaf) .leaf) .leaf) .leaf) .leaf) .leaf)) .leaf)) (.node (some db13) (.node (some db43) (.node (some db44) .leaf .leaf) (.node (some db9) .leaf .leaf)) (.node (some db67) (.node (some db46) .leaf .leaf) .leaf))))), 8756⟩
def db113 : AB := (.cells [.any, .any, .any, .any] 58)
def db114 : AB := (.cells [.ptr 24 0, .ptr 25 0, .bool true, qf, qi 1, qz, qf, qf, qz, qz, qf, qf, qz, qz, qf, qf, qz, qz, qf, qf, qz, qz, qf, qf, qz, qz, qf, qf, qz, qz, qf, qf, qz, qz, qf, qf, qz, qz, qf, qf, qz, qz, qf, qf, qz, qz, qf, qf, qz, qz, qf, qf, qz, qz, qf, qf, qz, qz, qf, qf, qz, qz, qf, qf, qz, qz, qf, qf, qz, qz, qf, qf, qz, qz, qf, qf, qz, qz, qf, qf, qz, qz, qf, qf, qz, qz, qf, qf, qz, qz, qf, qf, qz, qz, qf, qf, qz, qz, qf, qf, qz, qz, qf, qf, qz, qz, qf, qf, qz, qz, qf, qf, qz, qz, qf, qf, qz, qz, qf, qf, qz, qz, qf, qf, qz, qz, qf, qf, qz, qz, qf, qf, qz, qz, qf, qf, qz, qz, qf, qf, qz, qz, qf, qf, qz, qz, qf, qf, qz, qz, qf, qf, qz, qz, qf, qf, qz, qz, qf, qf, qz, qz, qf, qf, qz, qz, qf, qf, qz, qz, qf, qf, qz, qz, qf, qf, qz, qz, qf, qf, qz, qz, qf, qf, qz, qz, qf, qf, qz, qz, qf, qf, qz, qz, qf, qf, qz, qz, qf, qf, qz, qz, qf, qf, qz, qz, qf, qf, qz, qz, qf, qf, qz, qz, qf, qf, qz, qz, qf, qf, qz, qz, qf, qf, qz, qz, qf, qf, qz, qz, qf, qf, qz, qz, qf, qf, qz, qz, qf, qf, qz, qz, qf, qf, qz, qz, qf, qf, qz, qz, qf, qf, qz, qz, qf, qf, qz, qz, qf, qf, qz, qz, qf, qf, qz, qz, qf, qf, qz, qz, qf, qf, qz, qz, qf, qf, qz, qz, qf, qf, qz, qz, qf, qf, qz, qz, qf, qf, qz, qz, qf, qf, qz, qz, qf, qf, qz, qz, qf, qf, qz, qz, qf, qf, qz, qz, qf, qf, qz, qz, qf, qf, qz, qz, qf, qf, qz, qz, qf, qf, qz, qz, qf, qf, qz, qz, qf, qf, qz, qz, qf, qf, qz, qz, qf, qf, qz, qz, qf, qf, qz, qz, qf, qf, qz, qz, qf, qf, qz, qz, qf, qf, qz, qz, qf, qf, qz, qz, qf, qf, qz, qz, qf, qf, qz, qz, qf, qf, qz, qz, qf, qf, qz, qz, qf, qf, qz, qz, qf, qf, qz, qz, qf, qf, qz, qz, qf, qf, qz, qz, qf, qf, qz, qz, qf, qf, qz, qz, qf, qf, qz, qz, qf, qf, qz, qz, qf, qf, qz, qz, qf, qf, qz, qz, qf, qf, qz, qz, qf, qf, qz, qz, qf, qf, qz, qz, qf, qf, qz, qz, qf, qf, qz, qz, qf, qf, qz, qz, qf, qf, qz, qz, qf, qf, qz, qz, qf, qf, qz, qz, qf, qf, qz, qz, qf, qf, qz, qz, qf, qf, qz, qz, qf, qf, qz, qz, qf, qf, qz, qz, qf, qf, qz, qz, qf, qf, qz, qz, qf, qf, qz, qz, qf, qf, qz, qz, qf, qf, qz, qz, qf, qf, qz, qz, qf, qf, qz, qz, qf, qf, qz, qz, qf, qf, qz, qz, qf, qf, qz, qz, qf, qf, qz, qz, qf, qf, qz, qz, qf, qf, qz, qz, qf, qf, qz, qz, qf, qf, qz, qz, qf, qf, qz, qz, qf, qf, qz, qz, qf, qf, qz, qz, qf, qf, qz, qz, qf, qf, qz, qz, qf, qf, qz, qz, qf, qf, qz, qz, qf, qf, qz, qz, qf, qf, qz, qz, qf, qf, qz, qz, qf, qf, qz, qz, qf, qf, qz, qz, qf, qf, qz, qz, qf, qf, qz, qz, qf, qf, qz, qz, qf, qf, qz, qz, qf, qf, qz, qz, qf, qf, qz, qz, qf, qf, qz, qz, qf, qf, qz, qz, qf, qf, qz, qz, qf, qf, qz, qz, qf, qf, qz, qz, qf, qf, qz, qz, qf, qf, qz, qz, qf, qf, qz, qz, qf, qf, qz, qz, qf, qf, qz, qz, qf, qf, qz, qz, qf, qf, qz, qz, qf, qf, qz, qz, qf, qf, qz, qz, qf, qf, qz, qz, qf, qf, qz, qz, qf, qf, qz, qz, qf, qf, qz, qz, qf, qf, qz, qz, qf, qf, qz, qz, qf, qf, qz, qz, qf, qf, qz, qz, qf, qf, qz, qz, qf, qf, qz, qz, qf, qf, qz, qz, qf, qf, qz, qz, qf, qf, qz, qz, qf, qf, qz, qz, qf, qf, qz, qz, qf, qf, qz, qz, qf, qf, qz, qz, qf, qf, qz, qz, qf, qf, qz, qz, qf, qf, qz, qz, qf, qf, qz, qz, qf, qf, qz, qz, qf, qf, qz, qz, qf, qf, qz, qz, qf, qf, qz, qz, qf, qf, qz, qz, qf, qf, qz, qz, qf, qf, qz, qz, qf, qf, qz, qz, qf, qf, qz, qz, qf, qf, qz, qz, qf, qf, qz, qz, qf, qf, qz, qz, qf, qf, qz, qz, qf, qf, qz, qz, qf, qf, qz, qz, qf, qf, qz, qz, qf, qf, qz, qz, qf, qf, qz, qz, qf, qf, qz, qz, qf, qf, qz, qz, qf, qf, qz, qz, qf, qf, qz, qz, qf, qf, qz, qz, qf, qf, qz, qz, qf, qf, qz, qz, qf, qf, qz, qz, qf, qf, qz, qz, qf, qf, qz, qz, qf, qf, qz, qz, qf, qf, qz, qz, qf, qf, qz, qz, qf, qf, qz, qz, qf, qf, qz, qz, qf, qf, qz, qz, qf, qf, qz, qz, qf, qf, qz, qz, qf, qf, qz, qz, qf, qf, qz, qz, qf, qf, qz, qz, qf, qf, qz, qz, qf, qf, qz, qz, qf, qf, qz, qz, qf, qf, qz, qz, qf, qf, qz, qz, qf, qf, qz, qz, qf, qf, qz, qz, qf, qf, qz, qz, qf, qf, qz, qz, qf, qf, qz, qz, qf, qf, qz, qz, qf, qf, qz, qz, qf, qf, qz, qz, qf, qf, qz, qz, qf, qf, qz, qz, qf, qf, qz, qz, qf, qf, qz, qz, qf, qf, qz, qz, qf, qf, qz, qz, qf, qf, qz, qz, qf, qf, qz, qz, qf, qf, qz, qz, qf, qf, qz, qz, qf, qf, qz, qz, qf, qf, qz, qz, qf, qf, qz, qz, qf, qf, qz, qz, qf, qf, qz, qz, qf, qf, qz, qz, qf, qf, qz, qz, qf, qf, qz, qz, qf, qf, qz, qz] 248)
def db115 : AB := (.cells (.int .u64 (.atom 11) :: nilsN 512 [qu, qu, qu, qu, qu, qu, qu, qu, .map 55, qz]) 415)
def db116 : AB := (.cells [.slc 58 0 (.lit 64) (some 64), qz, qz] 417)
def db117 : AB := (.cells [.slc 56 0 (.lit 256) (some 256), qz, qz] 389)
def hNvS : St := ⟨(.node (some db0) (.node (some db113) (.node (some db69) (.node (some db70) (.node (some db71) (.node (some db72) .leaf .leaf) (.node (some db106) .leaf .leaf)) (.node (some db74) (.node (some db75) .leaf .leaf) (.node (some db13) .leaf .leaf))) (.node (some db114) (.node (some db4) (.node (some db77) .leaf .leaf) (.node (some db100) .leaf .leaf)) (.node (some db7) (.node (some db79) .leaf .leaf) (.node (some db9) .leaf .leaf)))) (.node (some db80) (.node (some db81) (.node (some db48) (.node (some db82) .leaf .leaf) (.node (some db92) .leaf .leaf)) (.node (some db84) (.node (some db34) .leaf .leaf) (.node (some db6) .leaf .leaf))) (.node (some db85) (.node (some db86) (.node (some db87) .leaf .leaf) (.node (some db6) .leaf .leaf)) (.node (some db63) (.node (some db115) .leaf .leaf) (.node (some db9) .leaf .leaf))))) (.node (some db89) (.node (some db90) (.node (some db91) (.node (some db13) (.node (some db35) .leaf .leaf) (.node (some db116) .leaf .leaf)) (.node (some db93) (.node (some db65) .leaf .leaf) (.node (some db6) .leaf .leaf))) (.node (some db94) (.node (some db28) (.node (some db95) .leaf .leaf) (.node (some db6) .leaf .leaf)) (.node (some db96) (.node (some db109) .leaf .leaf) (.node (some db9) .leaf .leaf)))) (.node (some db98) (.node (some db99) (.node (some db1) (.node (some db67) .leaf .leaf) (.node (some db83) .leaf .leaf)) (.node (some db101) (.node (some db42) .leaf .leaf) (.node (some db9) .leaf .leaf))) (.node (some db102) (.node (some db103) (.node (some db104) .leaf .leaf) (.node (some db13) .leaf .leaf)) (.node (some db105) (.node (some db117) .leaf .leaf) .leaf))))), 200⟩
def hNvA : A := ⟨[.mk (.int .u64 (.atom 9)) .dead .dead .dead (.top 80 (.atom 35)) .dead .dead .dead, .mk .dead .dead qf (.ptr 0 0) .dead .dead .dead (qi 12), .mk (.ptr 1 0) .dead (.int .i64 (.atom 43)) .dead qf (.int .i64 (.atom 30)) .dead .dead, d8, d8, d8, d8, d8, d8, d8, d8, d8, d8, d8, d8, d8, d8, d8, d8, d8, d8, d8, d8, d8, d8, d8, d8, d8, d8, d8, d8, d8], []⟩
def dR0f : List (Nat × Nat) := [(0, 0), (1, 8756), (2, 2), (3, 3), (4, 4), (5, 332), (6, 2091), (7, 5), (8, 6), (9, 8755), (10, 8), (11, 9), (12, 10), (13, 11), (14, 12), (15, 13), (16, 14), (17, 331), (18, 2090), (19, 15), (20, 16), (21, 17), (22, 18), (23, 19), (24, 20), (25, 21), (26, 22), (27, 23), (28, 24), (29, 25), (30, 26), (31, 27), (32, 28), (33, 29), (34, 30), (35, 31), (36, 32), (37, 33), (38, 34), (39, 35), (40, 6920), (41, 36), (42, 37), (43, 38), (44, 39), (45, 40), (46, 41), (47, 42), (48, 43), (49, 44), (50, 45), (51, 46), (52, 47), (53, 48), (54, 49), (55, 50), (56, 51), (57, 52), (58, 53), (59, 54), (60, 55), (61, 56)]
def dL0f : List SV := [.int .u64 (.atom 9), .int .i64 (.lit 0), .int .i64 (.lit 7), .int .i64 (.lit 0), .int .u64 (.lit 0), .int .u64 (.atom 9), .int .i64 (.lit 0), .int .i64 (.lit 9), .int .i64 (.lit 0), .int .u64 (.lit 0), .int .u64 (.atom 9), .int .i64 (.lit 0), .int .i64 (.lit 6), .int .i64 (.lit 0), .int .u64 (.lit 0), .int .u64 (.atom 9), .int .i64 (.lit 0), .int .i64 (.lit 6), .int .i64 (.lit 0), .int .u64 (.lit 1), .int .u64 (.atom 9), .int .i64 (.lit 0), .int .i64 (.lit 8), .int .i64 (.lit 0), .int .u64 (.lit 0), .int .u64 (.atom 9), .int .i64 (.lit 3), .int .i64 (.lit 0), .int .i64 (.lit 1), .int .u64 (.lit 0), .int .u64 (.atom 9), .int .i64 (.lit 5), .int .i64 (.lit 0), .int .i64 (.lit 192), .int .u64 (.lit 1), .int .u64 (.atom 9), .int .i64 (.lit 5), .int .i64 (.lit 0), .int .i64 (.lit 384), .int .u64 (.lit 0), .int .u64 (.atom 9), .int .i64 (.lit 0), .int .i64 (.lit 1), .int .i64 (.lit 0), .int .u64 (.lit 0), .int .u64 (.atom 9), .int .i64 (.lit 5), .int .i64 (.lit 0), .int .i64 (.lit 448), .int .u64 (.lit 0), .int .u64 (.atom 9), .int .i64 (.lit 5), .int .i64 (.lit 0), .int .i64 (.lit 512), .int .u64 (.lit 18446744073709551604), .int .u64 (.atom 9), .int .i64 (.lit 4), .int .i64 (.lit 0), .int .i64 (.lit 0), .int .u64 (.lit 18446744073709551604), .int .u64 (.atom 9), .int .i64 (.lit 0), .int .i64 (.lit 1), .int .i64 (.lit 0), .int .u64 (.lit 0)]
def dB1fS : St := dB0fS
def dR1f : List (Nat × Nat) := dR0f
def dL1f : List SV := dL0f
def dB2fS : St := dB0fS
def dR2f : List (Nat × Nat) := dR0f
def dL2f : List SV := dL0f
def nv0R : List (Nat × Nat) := [(0, 0), (1, 1), (2, 2), (3, 3), (4, 4), (5, 5), (6, 6), (7, 7), (8, 8), (9, 1427), (10, 10), (11, 11), (12, 12), (13, 13), (14, 14), (15, 15), (16, 16), (17, 17), (18, 18), (19, 19), (20, 20), (21, 21), (22, 22), (23, 23), (24, 24), (25, 25), (26, 26), (27, 27), (28, 28), (29, 29), (30, 30), (31, 31), (32, 32), (33, 33), (34, 34), (35, 35), (36, 36), (37, 37), (38, 38), (39, 39), (40, 40), (41, 41), (42, 42), (43, 43), (44, 44), (45, 45), (46, 46), (47, 47), (48, 48), (49, 49), (50, 50), (51, 51), (52, 52), (53, 53), (54, 54), (55, 55), (56, 56), (57, 57), (58, 58), (59, 59), (60, 60), (61, 61)]
def nv0L : List SV := [.int .u64 (.atom 19), .int .i64 (.lit 0), .int .i64 (.lit 0), .int .i64 (.lit 0), .int .u64 (.atom 19), .int .u64 (.atom 19), .int .i64 (.lit 0), .int .i64 (.lit 1), .int .i64 (.lit 4), .int .u64 (.lit 0)]
def nv0B : A := ⟨[.mk (.int .u64 (.atom 9)) .dead .dead .dead (.top 80 (.atom 35)) .dead .dead .dead, .mk .dead .dead qf (.ptr 0 0) .dead .dead .dead (qi 12), .mk (.ptr 1 0) .dead (.int .i64 (.atom 43)) .dead qf (.int .i64 (.atom 30)) qz .dead, d8, d8, d8, d8, d8, d8, d8, d8, d8, d8, d8, d8, d8, d8, d8, d8, d8, .mk .dead .dead .dead (.ptr 0 0) .dead .dead .dead .dead, .mk (.int .i64 (.atom 38)) .dead .dead .dead .dead .dead .dead .dead, d8, d8, d8, d8, d8, d8, d8, d8, d8, d8], []⟩
def nv1R : List (Nat × Nat) := nv0R
def nv1L : List SV := nv0L
def nv1B : A := ⟨[.mk (.int .u64 (.atom 9)) .dead .dead .dead (.top 80 (.atom 35)) .dead .dead .dead, .mk .dead .dead qf (.ptr 0 0) .dead .dead .dead (qi 12), .mk (.ptr 1 0) .dead (.int .i64 (.atom 43)) .dead qf (.int .i64 (.atom 30)) (qi 1) .dead, d8, d8, d8, d8, d8, d8, d8, d8, d8, d8, d8, d8, d8, d8, d8, d8, d8, .mk .dead .dead .dead (.ptr 0 0) .dead .dead .dead .dead, .mk (.int .i64 (.atom 38)) .dead .dead .dead .dead .dead .dead .dead, d8, d8, d8, d8, d8, d8, d8, d8, d8, d8], []⟩
def ra00R : List (Nat × Nat) := [(0, 0), (1, 1), (2, 2), (3, 3), (4, 4), (5, 5), (6, 6), (7, 7), (8, 8), (9, 1427), (10, 10), (11, 11), (12, 12), (13, 13), (14, 14), (15, 15), (16, 16), (17, 17), (18, 18), (19, 19), (20, 20), (21, 21), (22, 22), (23, 23), (24, 24), (25, 25), (26, 26), (27, 27), (28, 28), (29, 29), (30, 30), (31, 31), (32, 32), (33, 33), (34, 34), (35, 35), (36, 36), (37, 37), (38, 38), (39, 39), (40, 40), (41, 41), (42, 42), (43, 43), (44, 44), (45, 45), (46, 46), (47, 47), (48, 48), (49, 49), (50, 50), (51, 51), (52, 52), (53, 53), (54, 54), (55, 55), (56, 56), (57, 57), (58, 58), (59, 59), (60, 60), (61, 61), (62, 62)]
def ra00L : List SV := nv0L
def ra00B : A := ⟨[.mk (.int .u64 (.atom 9)) .dead .dead .dead (.top 80 (.atom 35)) .dead .dead .dead, .mk .dead .dead qf (.ptr 0 0) .dead .dead .dead qz, .mk (.ptr 1 0) .dead qz .dead qf (.int .i64 (.atom 30)) qz .dead, d8, d8, d8, d8, d8, d8, d8, d8, d8, d8, d8, d8, d8, d8, d8, d8, d8, .mk .dead .dead .dead (.ptr 0 0) .dead .dead .dead .dead, .mk (.int .i64 (.atom 38)) .dead .dead .dead .dead .dead .dead .dead, d8, d8, d8, d8, d8, d8, d8, d8, d8, d8], []⟩
def ra01R : List (Nat × Nat) := ra00R
def ra01L : List SV := nv0L
def ra01B : A := ⟨[.mk (.int .u64 (.atom 9)) .dead .dead .dead (.top 80 (.atom 35)) .dead .dead .dead, .mk .dead .dead qf (.ptr 0 0) .dead .dead .dead qz, .mk (.ptr 1 0) .dead qz .dead qf (.int .i64 (.atom 30)) (qi 1) .dead, d8, d8, d8, d8, d8, d8, d8, d8, d8, d8, d8, d8, d8, d8, d8, d8, d8, .mk .dead .dead .dead (.ptr 0 0) .dead .dead .dead .dead, .mk (.int .i64 (.atom 38)) .dead .dead .dead .dead .dead .dead .dead, d8, d8, d8, d8, d8, d8, d8, d8, d8, d8], []⟩
def db118 : AB := (.cells [qz, qz, qz, qz, qz, qz, qz, qz, qz, qz, qz, qz, qz, qz, qz, qz, qz, qz, qz, qz, qz, qz, qz, qz, qz, qz, qz, qz, qz, qz, qz, qz, qz, qz, qz, qz, qz, qz, qz, qz, qz, qz, qz, qz, qz, qz, qz, qz, qz, qz, qz, qz, qz, qz, qz, qz, qz, qz, qz, qz, qz, qz, qz, qz, qz, qz, qz, qz, qz, qz, qz, qz, qz, qz, qz, qz, qz, qz, qz, qz, qz, qz, qz, qz, qz, qz, qz, qz, qz, qz, qz, qz, qz, qz, qz, qz, qz, qz, qz, qz, qz, qz, qz, qz, qz, qz, qz, qz, qz, qz, qz, qz, qz, qz, qz, qz, qz, qz, qz, qz, qz, qz, qz, qz, qz, qz, qz, qz, qu, qi 2] 263)
def db119 : AB := (.sel (.int .u64 (.atom 10) :: deadN 512 [qu, qu, qu, qu, qu, qu, qu, qu, .map 54, qi 1]) 1 512 [] 415)
def db120 : AB := (.cells [.slc 52 0 (.lit 256) (some 256), qi 1, qz] 389)
def db121 : AB := (.map [] 1 true)
def hD0S : St := ⟨(.node (some db0) (.node (some db68) (.node (some db69) (.node (some db70) (.node (some db71) (.node (some db72) .leaf .leaf) (.node (some db106) .leaf .leaf)) (.node (some db74) (.node (some db75) .leaf .leaf) (.node (some db13) .leaf .leaf))) (.node (some db76) (.node (some db4) (.node (some db77) .leaf .leaf) (.node (some db100) .leaf .leaf)) (.node (some db7) (.node (some db79) .leaf .leaf) (.node (some db9) .leaf .leaf)))) (.node (some db80) (.node (some db81) (.node (some db48) (.node (some db82) .leaf .leaf) (.node (some db92) .leaf .leaf)) (.node (some db84) (.node (some db34) .leaf .leaf) (.node (some db6) .leaf .leaf))) (.node (some db85) (.node (some db86) (.node (some db87) .leaf .leaf) (.node (some db6) .leaf .leaf)) (.node (some db118) (.node (some db115) .leaf .leaf) (.node (some db9) .leaf .leaf))))) (.node (some db89) (.node (some db90) (.node (some db91) (.node (some db13) (.node (some db35) .leaf .leaf) (.node (some db116) .leaf .leaf)) (.node (some db93) (.node (some db65) .leaf .leaf) (.node (some db6) .leaf .leaf))) (.node (some db94) (.node (some db28) (.node (some db95) .leaf .leaf) (.node (some db6) .leaf .leaf)) (.node (some db96) (.node (some db119) .leaf .leaf) (.node (some db9) .leaf .leaf)))) (.node (some db98) (.node (some db99) (.node (some db1) (.node (some db67) .leaf .leaf) (.node (some db83) .leaf .leaf)) (.node (some db101) (.node (some db120) .leaf .leaf) (.node (some db9) .leaf .leaf))) (.node (some db102) (.node (some db103) (.node (some db104) .leaf .leaf) (.node (some db121) .leaf .leaf)) (.node (some db105) (.node (some db117) .leaf .leaf) .leaf))))), 200⟩
def hD0A : A := ⟨[.mk (.int .u64 (.atom 9)) .dead .dead .dead (.top 80 (.atom 35)) .dead .dead .dead, .mk .dead .dead qf (.ptr 0 0) .dead .dead .dead qz, .mk (.ptr 1 0) .dead qz .dead (.bool true) (.int .i64 (.atom 30)) .dead .dead, d8, d8, d8, d8, d8, d8, d8, d8, d8, d8, d8, d8, d8, d8, d8, d8, d8, d8, d8, d8, d8, d8, d8, d8, d8, d8, d8, d8, d8], []⟩
def fi0R : List (Nat × Nat) := [(0, 0), (1, 1), (2, 2), (3, 3), (4, 4), (5, 5), (6, 6), (7, 7), (8, 8), (9, 2047), (10, 10), (11, 11), (12, 12), (13, 13), (14, 14), (15, 15), (16, 16), (17, 17), (18, 18), (19, 19), (20, 20), (21, 21), (22, 22), (23, 23), (24, 24), (25, 25), (26, 26), (27, 27), (28, 28), (29, 29), (30, 30), (31, 31), (32, 32), (33, 33), (34, 34), (35, 35), (36, 36), (37, 37), (38, 38), (39, 39), (40, 40), (41, 41), (42, 42), (43, 43), (44, 44), (45, 45), (46, 46), (47, 47), (48, 48), (49, 49), (50, 50), (51, 51), (52, 52), (53, 53), (54, 55), (55, 56), (56, 57), (57, 58), (58, 59), (59, 60), (60, 61), (61, 62)]
def fi0L : List SV := [.int .u64 (.atom 19), .int .i64 (.lit 0), .int .i64 (.lit 0), .int .i64 (.lit 0), .int .u64 (.atom 19), .int .u64 (.atom 19), .int .i64 (.lit 1), .int .i64 (.lit 0), .int .i64 (.lit 0), .int .u64 (.lit 0), .int .u64 (.atom 19), .int .i64 (.lit 4), .int .i64 (.lit 0), .int .i64 (.lit 0), .int .u64 (.lit 0), .int .u64 (.atom 19), .int .i64 (.lit 0), .int .i64 (.lit 1), .int .i64 (.lit 0), .int .u64 (.lit 0)]
def fi0B : A := ra00B
def ra11R : List (Nat × Nat) := ra00R
def ra11L : List SV := nv0L
def ra11B : A := ⟨[.mk (.int .u64 (.atom 9)) .dead .dead .dead (.top 80 (.atom 35)) .dead .dead .dead, .mk .dead .dead qf (.ptr 0 0) .dead .dead .dead qz, .mk (.ptr 1 0) .dead (qi 1) .dead qf (.int .i64 (.atom 30)) (qi 1) .dead, d8, d8, d8, d8, d8, d8, d8, d8, d8, d8, d8, d8, d8, d8, d8, d8, d8, .mk .dead .dead .dead (.ptr 0 0) .dead .dead .dead .dead, .mk (.int .i64 (.atom 38)) .dead .dead .dead .dead .dead .dead .dead, d8, d8, d8, d8, d8, d8, d8, d8, d8, d8], []⟩
def ra10R : List (Nat × Nat) := ra00R
def ra10L : List SV := nv0L
def ra10B : A := ⟨[.mk (.int .u64 (.atom 9)) .dead .dead .dead (.top 80 (.atom 35)) .dead .dead .dead, .mk .dead .dead qf (.ptr 0 0) .dead .dead .dead qz, .mk (.ptr 1 0) .dead (qi 1) .dead qf (.int .i64 (.atom 30)) qz .dead, d8, d8, d8, d8, d8, d8, d8, d8, d8, d8, d8, d8, d8, d8, d8, d8, d8, .mk .dead .dead .dead (.ptr 0 0) .dead .dead .dead .dead, .mk (.int .i64 (.atom 38)) .dead .dead .dead .dead .dead .dead .dead, d8, d8, d8, d8, d8, d8, d8, d8, d8, d8], []⟩
def db122 : AB := (.cells [.slc 53 0 (.lit 256) (some 256), qi 1, qz] 389)
def db123 : AB := (.sel (.int .u64 (.atom 11) :: deadN 512 [qu, qu, qu, qu, qu, qu, qu, qu, .map 55, qi 1]) 1 512 [] 415)
def hD1S : St := ⟨(.node (some db0) (.node (some db68) (.node (some db69) (.node (some db70) (.node (some db71) (.node (some db72) .leaf .leaf) (.node (some db106) .leaf .leaf)) (.node (some db74) (.node (some db75) .leaf .leaf) (.node (some db121) .leaf .leaf))) (.node (some db76) (.node (some db4) (.node (some db77) .leaf .leaf) (.node (some db100) .leaf .leaf)) (.node (some db7) (.node (some db122) .leaf .leaf) (.node (some db9) .leaf .leaf)))) (.node (some db80) (.node (some db81) (.node (some db48) (.node (some db82) .leaf .leaf) (.node (some db92) .leaf .leaf)) (.node (some db84) (.node (some db34) .leaf .leaf) (.node (some db6) .leaf .leaf))) (.node (some db85) (.node (some db86) (.node (some db87) .leaf .leaf) (.node (some db6) .leaf .leaf)) (.node (some db118) (.node (some db123) .leaf .leaf) (.node (some db9) .leaf .leaf))))) (.node (some db89) (.node (some db90) (.node (some db91) (.node (some db13) (.node (some db35) .leaf .leaf) (.node (some db116) .leaf .leaf)) (.node (some db93) (.node (some db65) .leaf .leaf) (.node (some db6) .leaf .leaf))) (.node (some db94) (.node (some db28) (.node (some db95) .leaf .leaf) (.node (some db6) .leaf .leaf)) (.node (some db96) (.node (some db109) .leaf .leaf) (.node (some db9) .leaf .leaf)))) (.node (some db98) (.node (some db99) (.node (some db1) (.node (some db67) .leaf .leaf) (.node (some db83) .leaf .leaf)) (.node (some db101) (.node (some db42) .leaf .leaf) (.node (some db9) .leaf .leaf))) (.node (some db102) (.node (some db103) (.node (some db104) .leaf .leaf) (.node (some db13) .leaf .leaf)) (.node (some db105) (.node (some db117) .leaf .leaf) .leaf))))), 200⟩
def hD1A : A := ⟨[.mk (.int .u64 (.atom 9)) .dead .dead .dead (.top 80 (.atom 35)) .dead .dead .dead, .mk .dead .dead qf (.ptr 0 0) .dead .dead .dead qz, .mk (.ptr 1 0) .dead (qi 1) .dead (.bool true) (.int .i64 (.atom 30)) .dead .dead, d8, d8, d8, d8, d8, d8, d8, d8, d8, d8, d8, d8, d8, d8, d8, d8, d8, d8, d8, d8, d8, d8, d8, d8, d8, d8, d8, d8, d8], []⟩
def fi1R : List (Nat × Nat) := [(0, 0), (1, 1), (2, 2), (3, 3), (4, 4), (5, 5), (6, 6), (7, 7), (8, 8), (9, 2047), (10, 10), (11, 11), (12, 12), (13, 13), (14, 14), (15, 15), (16, 16), (17, 17), (18, 18), (19, 19), (20, 20), (21, 21), (22, 22), (23, 23), (24, 24), (25, 25), (26, 26), (27, 27), (28, 28), (29, 29), (30, 30), (31, 31), (32, 32), (33, 33), (34, 34), (35, 35), (36, 36), (37, 37), (38, 38), (39, 39), (40, 40), (41, 41), (42, 42), (43, 43), (44, 44), (45, 45), (46, 46), (47, 47), (48, 48), (49, 49), (50, 50), (51, 51), (52, 52), (53, 53), (54, 54), (55, 56), (56, 57), (57, 58), (58, 59), (59, 60), (60, 61), (61, 62)]
def fi1L : List SV := fi0L
def fi1B : A := ra11B
def dn00R : List (Nat × Nat) := nv0R
def dn00L : List SV := nv0L
def dn00B : A := ⟨[.mk (.int .u64 (.atom 9)) .dead .dead .dead (.top 80 (.atom 35)) .dead .dead .dead, .mk .dead .dead qf (.ptr 0 0) .dead .dead .dead qz, .mk (.ptr 1 0) .dead qz .dead (.bool true) (.int .i64 (.atom 30)) qz .dead, d8, d8, d8, d8, d8, d8, d8, d8, d8, d8, d8, d8, d8, d8, d8, d8, d8, .mk .dead .dead .dead (.ptr 0 0) .dead .dead .dead .dead, .mk (.int .i64 (.atom 38)) .dead .dead .dead .dead .dead .dead .dead, d8, d8, d8, d8, d8, d8, d8, d8, d8, d8], []⟩
def dn01R : List (Nat × Nat) := nv0R
def dn01L : List SV := nv0L
def dn01B : A := ⟨[.mk (.int .u64 (.atom 9)) .dead .dead .dead (.top 80 (.atom 35)) .dead .dead .dead, .mk .dead .dead qf (.ptr 0 0) .dead .dead .dead qz, .mk (.ptr 1 0) .dead qz .dead (.bool true) (.int .i64 (.atom 30)) (qi 1) .dead, d8, d8, d8, d8, d8, d8, d8, d8, d8, d8, d8, d8, d8, d8, d8, d8, d8, .mk .dead .dead .dead (.ptr 0 0) .dead .dead .dead .dead, .mk (.int .i64 (.atom 38)) .dead .dead .dead .dead .dead .dead .dead, d8, d8, d8, d8, d8, d8, d8, d8, d8, d8], []⟩
def dn10R : List (Nat × Nat) := nv0R
def dn10L : List SV := nv0L
def dn10B : A := ⟨[.mk (.int .u64 (.atom 9)) .dead .dead .dead (.top 80 (.atom 35)) .dead .dead .dead, .mk .dead .dead qf (.ptr 0 0) .dead .dead .dead qz, .mk (.ptr 1 0) .dead (qi 1) .dead (.bool true) (.int .i64 (.atom 30)) qz .dead, d8, d8, d8, d8, d8, d8, d8, d8, d8, d8, d8, d8, d8, d8, d8, d8, d8, .mk .dead .dead .dead (.ptr 0 0) .dead .dead .dead .dead, .mk (.int .i64 (.atom 38)) .dead .dead .dead .dead .dead .dead .dead, d8, d8, d8, d8, d8, d8, d8, d8, d8, d8], []⟩
def dn11R : List (Nat × Nat) := nv0R
def dn11L : List SV := nv0L
def dn11B : A := ⟨[.mk (.int .u64 (.atom 9)) .dead .dead .dead (.top 80 (.atom 35)) .dead .dead .dead, .mk .dead .dead qf (.ptr 0 0) .dead .dead .dead qz, .mk (.ptr 1 0) .dead (qi 1) .dead (.bool true) (.int .i64 (.atom 30)) (qi 1) .dead, d8, d8, d8, d8, d8, d8, d8, d8, d8, d8, d8, d8, d8, d8, d8, d8, d8, .mk .dead .dead .dead (.ptr 0 0) .dead .dead .dead .dead, .mk (.int .i64 (.atom 38)) .dead .dead .dead .dead .dead .dead .dead, d8, d8, d8, d8, d8, d8, d8, d8, d8, d8], []⟩
def sfMt (pc : Nat) : Self := match pc with
  | 0 => selfStep (envD 0 true) (memoSelf 18 dG0 dA0S dV0 dB0S (memoSelf 18 dG1 dA1S dV1 dB1S (memoSelf 14 dG2 dA2S dV2 dB0tS (sfD 0 true))))
  | 1 => selfStep (envD 1 true) (memoSelf 18 dG0 dA0S dV0 dB0S (memoSelf 18 dG1 dA1S dV1 dB1S (memoSelf 14 dG2 dA2S dV2 dB1tS (sfD 1 true))))
  | _ => selfStep (envD 2 true) (memoSelf 18 dG0 dA0S dV0 dB0S (memoSelf 18 dG1 dA1S dV1 dB1S (memoSelf 14 dG2 dA2S dV2 dB2tS (sfD 2 true))))
def sfMf (pc : Nat) : Self := match pc with
  | 0 => selfStep (envD 0 false) (memoSelf 18 dG0 dA0S dV0 dB0S (memoSelf 18 dG1 dA1S dV1 dB1S (memoSelf 14 dG2 dA2S dV2 dB0fS (sfD 0 false))))
  | 1 => selfStep (envD 1 false) (memoSelf 18 dG0 dA0S dV0 dB0S (memoSelf 18 dG1 dA1S dV1 dB1S (memoSelf 14 dG2 dA2S dV2 dB1fS (sfD 1 false))))
  | _ => selfStep (envD 2 false) (memoSelf 18 dG0 dA0S dV0 dB0S (memoSelf 18 dG1 dA1S dV1 dB1S (memoSelf 14 dG2 dA2S dV2 dB2fS (sfD 2 false))))
def dd0A : A := ⟨.mk (.int .u64 (.atom 9)) (.int .u64 (.atom 2)) (.int .i64 (.atom 3)) (.int .i64 (.atom 4)) (.top 80 (.atom 35)) undefS undefS undefS :: [u8, u8, u8, u8, u8, u8, u8, u8, u8, u8, u8, u8, u8, u8, u8, u8, u8, u8, u8, u8, u8, u8, u8, u8, u8, u8, u8, u8, u8, u8, u8], []⟩
end
end Go.Ev
