/-
  Av: a small deterministic machine over abstract memory, and how the model's code is turned into its code. Definitions only.
-/
import GoSem.Step
set_option linter.unusedVariables false
namespace Go.Av

/-- Abstract values: addresses are numbers of abstract blocks; a slice knows a lower bound of its capacity ('ex': it is exact). -/
inductive AV where
  | bool (b : Bool) | int (k : IntKind) (n : Int) | str (s : List UInt8)
  | nilptr | ptr (b o : Nat)
  | nilsl | empsl | sl (b o n c : Nat) (ex : Bool)
  | nilmap | map (b : Nat)
  | nilfn | fn (f : FuncId) (first cap : List AV)
  | agg (l : List AV) | tup (l : List AV)
  | yld (b : Nat)
  deriving Inhabited

def undefA : AV := .tup []

/-- Kinds of cells that are compared. -/
inductive Scal where | bool | int | str
/-- What '==' may be asked of, by the type. -/
inductive EqK where | sc (s : Scal) | ptr | slice | map | func | flat (ks : List Scal)
/-! ### The small machine's code -/
inductive Opd where | tmp (t : Nat) | lit (v : AV)

inductive AOp where
  | mv (x : Opd) | pick (c a b : Opd)
  | alloc (e : TypeId) (z : List AV) | box (e : TypeId) (x : Opd)
  | build (z : List AV) (ps : List (Nat × Nat × Opd)) | bslice (e : TypeId) (n : Nat) (z : List AV) (ps : List (Nat × Nat × Opd))
  | load (n : Nat) (ag : Bool) (a : Opd) | store (n : Nat) (a x : Opd)
  | nilck (x : Opd)
  | bin (op : BinOp) (x y : Opd) | eq (k : EqK) (neg : Bool) (x y : Opd) | un (op : UnOp) (x : Opd)
  | convI (k : IntKind) (x : Opd) | convS (x : Opd) | b2s (x : Opd)
  | mkfn (f : FuncId) (first cap : List Opd) | mkmap (r : Option Opd) | mksl (e : TypeId) (z : List AV) (lim : Nat) (l c : Opd)
  | slstr (x : Opd) (lo hi : Option Opd) | slsl (sz : Nat) (x : Opd) (lo hi mx : Option Opd) | slarr (n sz : Nat) (x : Opd) (lo hi mx : Option Opd)
  | faddr (off : Nat) (x : Opd) | field (off n : Nat) (ag : Bool) (x : Opd)
  | idxA (n sz : Nat) (x i : Opd) | idxS (sz : Nat) (x i : Opd) | idxStr (x i : Opd) | idxAgg (n sz : Nat) (ag : Bool) (x i : Opd)
  | lookup (k : EqK) (z : AV) (ok : Bool) (m x : Opd) | mapup (k : EqK) (m x v : Opd) | del (k : EqK) (m x : Opd)
  | ext (x : Opd) (i : Nat)
  | lenC (n : Nat) (x : Opd) | lenM (x : Opd) | lenS (x : Opd) | lenStr (x : Opd)
  | mn (x y : Opd) | mx (x y : Opd)
  | app (e : TypeId) (sz : Nat) (bytes : Nat) (s x : Opd) | copy (sz : Nat) (d x : Opd)
  | clrM (x : Opd) | clrS (z : List AV) (x : Opd)
  | call (f : Opd) (args : List Opd)

structure AOper where
  dst : Option Nat
  op : AOp
  /-- the slot of the guard, and what it must hold -/
  guard : Option (Nat × Bool)

/-- How an operation of a region that draws its order is looked at: it looks at slots alone; it reads memory (and may come when so many acts are done, from 'lo' to 'hi'); it makes a block; it acts. -/
inductive DK where
  | pure | read (lo hi : Nat) | alloc | eff

inductive ACode where
  | skip
  | reg (ops : List AOper) (dr : Option (List DK))
  | seq (a b : ACode)
  | cond (c : Opd) (a b : ACode)
  | block (id : Nat) (c : ACode)
  | loop (c : ACode)
  | exit (id : Nat)
  | ret
  | rf (f : Opd) (ps : List Nat) (asg body : ACode)
  deriving Inhabited

inductive ARes where | tmp (t : Nat) | cell (t n : Nat) (ag : Bool)

structure AFun where
  ntmps : Nat
  results : List ARes
  body : ACode
  deriving Inhabited

inductive AX where | normal | exit (id : Nat) | ret

/-- A table by numbers. -/
inductive Tr (α : Type) where
  | nil | node (v : Option α) (l r : Tr α)
noncomputable def Tr.get {α : Type} (t : Tr α) : Nat → Option α :=
  t.rec (fun _ => none) (fun v _ _ gl gr n => n.casesOn v (fun m => (Nat.beq (Nat.mod m 2) 0).casesOn (gr (Nat.div m 2)) (gl (Nat.div m 2))))
noncomputable def Tr.setF {α : Type} (k : Nat) : Tr α → Nat → Option α → Tr α :=
  k.rec (fun t _ _ => t) (fun _ ih t n x => t.casesOn
    (n.casesOn (.node x .nil .nil) (fun m => (Nat.beq (Nat.mod m 2) 0).casesOn (.node none .nil (ih .nil (Nat.div m 2) x)) (.node none (ih .nil (Nat.div m 2) x) .nil)))
    (fun v l r => n.casesOn (.node x l r) (fun m => (Nat.beq (Nat.mod m 2) 0).casesOn (.node v l (ih r (Nat.div m 2) x)) (.node v (ih l (Nat.div m 2) x) r))))
noncomputable def Tr.set {α : Type} (t : Tr α) (n : Nat) (x : Option α) : Tr α := setF (Nat.succ n) t n x

/-- Abstract objects: rows of cells ('ro': never written; 'ex': the row has no more cells), maps, the record of a loop over a function ('p': how it is left). -/
inductive AObj where
  | cells (ro ex : Bool) (e : TypeId) (l : List AV)
  | amap (l : List (AV × AV))
  | aloop (p : Option AX) (ts : Tr AV) (ps : List Nat) (asg body : ACode)

/-- The slots of a function's frame. -/
abbrev TM := Tr AV
noncomputable def TM.at (ts : TM) (t : Nat) : AV := (ts.get t).casesOn undefA (fun v => v)
noncomputable def TM.put (ts : TM) (t : Nat) (v : AV) : TM := ts.set t (some v)
noncomputable def argsTM (l : List AV) : Nat → TM → TM :=
  l.rec (fun _ ts => ts) (fun a _ ih n ts => ih (Nat.succ n) (ts.put n a))

structure AS where
  h : Tr AObj
  next : Nat
noncomputable def AS.alloc (σ : AS) (o : AObj) : AS := ⟨σ.h.set σ.next (some o), Nat.succ σ.next⟩
noncomputable def AS.put (σ : AS) (b : Nat) (o : Option AObj) : AS := ⟨σ.h.set b o, σ.next⟩
noncomputable def AS.get (σ : AS) (b : Nat) : Option AObj := σ.h.get b

def cellsOf : AV → List AV
  | .agg l => l
  | v => [v]

/-! ### Lists -/
noncomputable def nth (l : List AV) : Nat → AV :=
  l.rec (fun _ => undefA) (fun a _ ih n => n.casesOn a ih)
noncomputable def setAt (l : List AV) : Nat → AV → List AV :=
  l.rec (fun _ _ => []) (fun a r ih n v => n.casesOn (v :: r) (fun m => a :: ih m v))
noncomputable def len (l : List AV) : Nat := l.rec 0 (fun _ _ n => Nat.succ n)
noncomputable def takeA (l : List AV) : Nat → List AV :=
  l.rec (fun _ => []) (fun a _ ih n => n.casesOn [] (fun m => a :: ih m))
noncomputable def dropA (l : List AV) : Nat → List AV :=
  l.rec (fun _ => []) (fun a r ih n => n.casesOn (a :: r) (fun m => ih m))
/-- 'n' cells from 'o' on. -/
noncomputable def getRange (l : List AV) (o n : Nat) : Option (List AV) :=
  let r := takeA (dropA l o) n
  bif Nat.beq (len r) n then some r else none
/-- The cells from the head on are 'vs'; none, if there are fewer. -/
noncomputable def over (vs : List AV) : List AV → Option (List AV) :=
  vs.rec (fun l => some l) (fun v _ ih l => l.casesOn none (fun _ r => (ih r).casesOn none (fun r' => some (v :: r'))))
noncomputable def putRange (l : List AV) (vs : List AV) : Nat → Option (List AV) :=
  l.rec (fun n => n.casesOn (over vs []) (fun _ => none)) (fun a r ih n => n.casesOn (over vs (a :: r)) (fun m => (ih m).casesOn none (fun r' => some (a :: r'))))
def repl (z : List AV) : Nat → List AV
  | 0 => []
  | n + 1 => z ++ repl z n

/-! ### Whole numbers and strings -/
def kNo : IntKind → Nat
  | .i8 => 0 | .i16 => 1 | .i32 => 2 | .i64 => 3 | .u8 => 4 | .u16 => 5 | .u32 => 6 | .u64 => 7
def kEq (a b : IntKind) : Bool := Nat.beq (kNo a) (kNo b)
def leB : Int → Int → Bool
  | .ofNat a, .ofNat b => Nat.ble a b
  | .negSucc _, .ofNat _ => true
  | .ofNat _, .negSucc _ => false
  | .negSucc a, .negSucc b => Nat.ble b a
def ltB (a b : Int) : Bool := !leB b a
def eqI : Int → Int → Bool
  | .ofNat a, .ofNat b => Nat.beq a b
  | .negSucc a, .negSucc b => Nat.beq a b
  | _, _ => false
/-- 'wrap', fast where nothing wraps. -/
def wrapA (k : IntKind) (n : Int) : Int :=
  match k, n with
  | .i64, .ofNat a => bif Nat.blt a 9223372036854775808 then .ofNat a else k.wrap (.ofNat a)
  | .u8, .ofNat a => .ofNat (Nat.mod a 256)
  | .u16, .ofNat a => .ofNat (Nat.mod a 65536)
  | .u64, .ofNat a => .ofNat (Nat.mod a 18446744073709551616)
  | k, n => k.wrap n
noncomputable def eqBytes (l : List UInt8) : List UInt8 → Bool :=
  l.rec (fun m => m.casesOn true (fun _ _ => false)) (fun a _ ih m => m.casesOn false (fun b y => bif Nat.beq a.toNat b.toNat then ih y else false))
noncomputable def ltBytes (l : List UInt8) : List UInt8 → Bool :=
  l.rec (fun m => m.casesOn false (fun _ _ => true)) (fun a _ ih m => m.casesOn false (fun b y => bif Nat.blt a.toNat b.toNat then true else bif Nat.beq a.toNat b.toNat then ih y else false))

noncomputable def scalarEq : Scal → AV → AV → Option Bool
  | .bool, .bool a, .bool b => some (a == b)
  | .int, .int k a, .int k' b => bif kEq k k' then some (eqI a b) else none
  | .str, .str a, .str b => some (eqBytes a b)
  | _, _, _ => none
noncomputable def cellsEq : List Scal → List AV → List AV → Option Bool
  | [], [], [] => some true
  | s :: ks, a :: x, b :: y => match scalarEq s a b, cellsEq ks x y with
    | some t, some u => some (t && u)
    | _, _ => none
  | _, _, _ => none

noncomputable def eqA : EqK → AV → AV → Option Bool
  | .sc s, a, b => scalarEq s a b
  | .flat ks, .agg a, .agg b => cellsEq ks a b
  | .ptr, .nilptr, .nilptr => some true
  | .ptr, .nilptr, .ptr _ _ => some false
  | .ptr, .ptr _ _, .nilptr => some false
  | .slice, .nilsl, .nilsl => some true
  | .slice, .nilsl, .sl .. => some false
  | .slice, .sl .., .nilsl => some false
  | .map, .nilmap, .nilmap => some true
  | .map, .nilmap, .map _ => some false
  | .map, .map _, .nilmap => some false
  | .func, .nilfn, .nilfn => some true
  | .func, .nilfn, .fn .. => some false
  | .func, .fn .., .nilfn => some false
  | _, _, _ => none

/-! ### Whether two values are one -/
noncomputable def eqAL (e : AV → AV → Bool) : List AV → List AV → Bool
  | [], [] => true
  | a :: l, b :: r => bif e a b then eqAL e l r else false
  | _, _ => false
noncomputable def eqAV : Nat → AV → AV → Bool
  | 0, _, _ => false
  | d + 1, x, y => match x, y with
    | .bool a, .bool b => a == b
    | .int k a, .int j b => kEq k j && eqI a b
    | .str a, .str b => eqBytes a b
    | .nilptr, .nilptr => true
    | .ptr a o, .ptr b q => Nat.beq a b && Nat.beq o q
    | .nilsl, .nilsl => true
    | .empsl, .empsl => true
    | .sl a o n c ex, .sl a' o' n' c' ex' => Nat.beq a a' && Nat.beq o o' && Nat.beq n n' && Nat.beq c c' && (ex == ex')
    | .nilmap, .nilmap => true
    | .map a, .map b => Nat.beq a b
    | .nilfn, .nilfn => true
    | .fn f p q, .fn g r t => Nat.beq f g && eqAL (eqAV d) p r && eqAL (eqAV d) q t
    | .agg l, .agg m => eqAL (eqAV d) l m
    | .tup l, .tup m => eqAL (eqAV d) l m
    | .yld a, .yld b => Nat.beq a b
    | _, _ => false

def bitsA (op : BinOp) (k : IntKind) (x y : Int) : Option Int :=
  let a := (x % (2 ^ k.bits : Nat)).toNat
  let b := (y % (2 ^ k.bits : Nat)).toNat
  match op with
  | .and => some (wrapA k (.ofNat (Nat.land a b)))
  | .or => some (wrapA k (.ofNat (Nat.lor a b)))
  | .xor => some (wrapA k (.ofNat (Nat.xor a b)))
  | _ => none

def binInt (op : BinOp) (k : IntKind) (a b : Int) : Option AV :=
  match op with
  | .add => some (.int k (wrapA k (Int.add a b)))
  | .sub => some (.int k (wrapA k (Int.sub a b)))
  | .mul => some (.int k (wrapA k (Int.mul a b)))
  | .quo => bif eqI b 0 then none else some (.int k (wrapA k (a.tdiv b)))
  | .rem => bif eqI b 0 then none else some (.int k (a.tmod b))
  | .eql => some (.bool (eqI a b))
  | .neq => some (.bool (!eqI a b))
  | .lss => some (.bool (ltB a b))
  | .leq => some (.bool (leB a b))
  | .gtr => some (.bool (ltB b a))
  | .geq => some (.bool (leB b a))
  | .and | .or | .xor => match bitsA op k a b with | some n => some (.int k n) | none => none
  | _ => none
def shiftInt (op : BinOp) (k : IntKind) (a b : Int) : Option AV :=
  match op, b with
  | .shl, .ofNat n => some (.int k (wrapA k (a * (2 ^ (min n k.bits) : Nat))))
  | .shr, .ofNat n => some (.int k (a.fdiv (2 ^ (min n k.bits) : Nat)))
  | _, _ => none
noncomputable def binStr (op : BinOp) (a b : List UInt8) : Option AV :=
  match op with
  | .add => bif Nat.ble (a.length + b.length) 9223372036854775807 then some (.str (a ++ b)) else none
  | .eql => some (.bool (eqBytes a b))
  | .neq => some (.bool (!eqBytes a b))
  | .lss => some (.bool (ltBytes a b))
  | .leq => some (.bool (ltBytes a b || eqBytes a b))
  | .gtr => some (.bool (!(ltBytes a b || eqBytes a b)))
  | .geq => some (.bool (!ltBytes a b))
  | _ => none
noncomputable def binA (op : BinOp) (x y : AV) : Option AV :=
  match x, y with
  | .int k a, .int k' b =>
    match op with
    | .shl => shiftInt .shl k a b
    | .shr => shiftInt .shr k a b
    | op => bif kEq k k' then binInt op k a b else none
  | .str a, .str b => binStr op a b
  | _, _ => none
def unA (op : UnOp) (x : AV) : Option AV :=
  match op, x with
  | .not, .bool b => some (.bool !b)
  | .neg, .int k n => some (.int k (wrapA k (0 - n)))
  | _, _ => none

def asNat : AV → Option Nat
  | .int _ (.ofNat n) => some n
  | _ => none

/-! ### What the operations do -/
noncomputable def evA (ts : TM) : Opd → AV
  | .tmp t => ts.at t
  | .lit v => v

def wrapUp (ag : Bool) (l : List AV) : Option AV :=
  match ag, l with
  | true, l => some (.agg l)
  | false, [v] => some v
  | _, _ => none

noncomputable def loadA (σ : AS) (n : Nat) (ag : Bool) : AV → Option AV
  | .ptr b o => match σ.get b with
    | some (.cells _ _ _ l) => match getRange l o n with
      | some r => wrapUp ag r
      | none => none
    | _ => none
  | _ => none

/-- Cells are written. -/
noncomputable def writeA (σ : AS) (b o : Nat) (vs : List AV) : Option AS :=
  match σ.get b with
  | some (.cells false ex e l) => match putRange l vs o with
    | some l' => some (σ.put b (some (.cells false ex e l')))
    | none => none
  | _ => none

def isTup : AV → Bool
  | .tup _ => true
  | _ => false
noncomputable def storeA (σ : AS) (n : Nat) (a v : AV) : Option AS :=
  match a with
  | .ptr b o => bif Nat.beq (len (cellsOf v)) n && !isTup v then writeA σ b o (cellsOf v) else none
  | _ => none

noncomputable def fillA (ts : TM) : List (Nat × Nat × Opd) → List AV → Option (List AV)
  | [], cs => some cs
  | (off, size, x) :: r, cs =>
    bif Nat.beq (len (cellsOf (evA ts x))) size && !isTup (evA ts x) then
      match putRange cs (cellsOf (evA ts x)) off with
      | some cs' => fillA ts r cs'
      | none => none
    else none

/-- A bound of a cut: at most 'y'. -/
noncomputable def boundA (ts : TM) (x : Option Opd) (dflt y : Nat) : Option Nat :=
  match x with
  | none => some dflt
  | some x => match asNat (evA ts x) with
    | some n => bif Nat.ble n y then some n else none
    | none => none

def lenV : AV → Option Nat
  | .nilsl => some 0
  | .empsl => some 0
  | .sl _ _ n _ _ => some n
  | .str s => some s.length
  | _ => none

def bytesAV : List UInt8 → List AV
  | [] => []
  | b :: r => .int .u8 (.ofNat b.toNat) :: bytesAV r
def avBytes : List AV → Option (List UInt8)
  | [] => some []
  | .int .u8 (.ofNat n) :: r => match avBytes r with
    | some l => some (UInt8.ofNat n :: l)
    | none => none
  | _ => none

/-- The first n elements' cells. -/
noncomputable def firstA (σ : AS) (sz n : Nat) : AV → Option (List AV)
  | .nilsl => bif Nat.beq n 0 then some [] else none
  | .empsl => bif Nat.beq n 0 then some [] else none
  | .sl b o m _ _ => bif Nat.ble n m then (match σ.get b with
    | some (.cells _ _ _ l) => getRange l o (n * sz)
    | _ => bif Nat.beq (n * sz) 0 then some [] else none) else none
  | .str s => bif Nat.beq sz 1 && Nat.ble n s.length then some (bytesAV (s.take n)) else none
  | _ => none

/-- May it be a key of this kind? -/
noncomputable def keyOk (k : EqK) (x : AV) : Bool :=
  match k, x with
  | .sc _, _ => true
  | .flat ks, .agg l => Nat.beq (len l) ks.length
  | _, _ => false
noncomputable def mapFind (k : EqK) (x : AV) : List (AV × AV) → Option (Option AV)
  | [] => some none
  | (a, v) :: r => match eqA k x a with
    | some true => some (some v)
    | some false => mapFind k x r
    | none => none
noncomputable def mapPut (k : EqK) (x v : AV) : List (AV × AV) → Option (List (AV × AV))
  | [] => some [(x, v)]
  | (a, u) :: r => match eqA k x a with
    | some true => some ((a, v) :: r)
    | some false => match mapPut k x v r with
      | some r' => some ((a, u) :: r')
      | none => none
    | none => none
noncomputable def mapDel (k : EqK) (x : AV) : List (AV × AV) → Option (List (AV × AV))
  | [] => some []
  | (a, u) :: r => match eqA k x a with
    | some true => some r
    | some false => match mapDel k x r with
      | some r' => some ((a, u) :: r')
      | none => none
    | none => none
noncomputable def mapAt (σ : AS) : AV → Option (List (AV × AV))
  | .nilmap => some []
  | .map b => match σ.get b with
    | some (.amap l) => some l
    | _ => none
  | _ => none

noncomputable def sliceS (ts : TM) (sz : Nat) (b o n c : Nat) (ex : Bool) (lo hi mx : Option Opd) : Option AV :=
  match boundA ts mx c c with
  | none => none
  | some m => match boundA ts hi n m with
    | none => none
    | some h => match boundA ts lo 0 h with
      | none => none
      | some l =>
        bif Nat.beq m l then (bif ex || mx.isSome then some (.sl b o 0 0 true) else some .empsl)
        else bif (!(ex || mx.isSome) && !(Nat.beq l 0)) && Nat.beq sz 0 then none else some (.sl b (o + l * sz) (h - l) (m - l) (ex || mx.isSome))

noncomputable def appA (σ : AS) (e : TypeId) (sz bytes : Nat) (s x : AV) : Option (AV × AS) :=
  match lenV x with
  | none => none
  | some n => match firstA σ sz n x with
    | none => none
    | some new => match s with
      | .nilsl => bif Nat.beq n 0 then some (.nilsl, σ) else bif Nat.ble n 70368744177664 && Nat.ble (n * bytes) 70368744177664 then some (.sl σ.next 0 n n false, σ.alloc (.cells false false e new)) else none
      | .sl b o m c ex =>
        bif Nat.ble (m + n) c then
          (bif Nat.beq n 0 then some (.sl b o m c ex, σ) else match writeA σ b (o + m * sz) new with
          | some σ' => some (.sl b o (m + n) c ex, σ')
          | none => none)
        else bif Nat.ble (m + n) 70368744177664 && Nat.ble ((m + n) * bytes) 70368744177664 then
          match firstA σ sz m s with
          | none => none
          | some old =>
            bif ex then some (.sl σ.next 0 (m + n) (m + n) false, σ.alloc (.cells false false e (old ++ new)))
            else bif Nat.beq o 0 then (match σ.get b with
              | some (.cells false ex' e' l) => bif Nat.beq e e' && !ex' then some (.sl σ.next 0 (m + n) (m + n) false, (σ.put b none).alloc (.cells false false e (old ++ new))) else none
              | _ => none)
            else none
        else none
      | _ => none

noncomputable def evL (ts : TM) : List Opd → List AV
  | [] => []
  | x :: r => evA ts x :: evL ts r

noncomputable def exMv (σ : AS) (ts : TM) (x : Opd) : Option (AV × AS) :=
  some (evA ts x, σ)
noncomputable def exPick (σ : AS) (ts : TM) (c : Opd) (a : Opd) (b : Opd) : Option (AV × AS) :=
  match evA ts c with | .bool t => some (bif t then evA ts a else evA ts b, σ) | _ => none
noncomputable def exAlloc (σ : AS) (ts : TM) (e : TypeId) (z : List AV) : Option (AV × AS) :=
  some (.ptr σ.next 0, σ.alloc (.cells false true e z))
noncomputable def exBox (σ : AS) (ts : TM) (e : TypeId) (x : Opd) : Option (AV × AS) :=
  bif isTup (evA ts x) then none else some (.ptr σ.next 0, σ.alloc (.cells false true e (cellsOf (evA ts x))))
noncomputable def exBuild (σ : AS) (ts : TM) (z : List AV) (ps : List (Nat × Nat × Opd)) : Option (AV × AS) :=
  match fillA ts ps z with | some cs => some (.agg cs, σ) | none => none
noncomputable def exBslice (σ : AS) (ts : TM) (e : TypeId) (n : Nat) (z : List AV) (ps : List (Nat × Nat × Opd)) : Option (AV × AS) :=
  match fillA ts ps z with | some cs => some (.sl σ.next 0 n n true, σ.alloc (.cells false true e cs)) | none => none
noncomputable def exLoad (σ : AS) (ts : TM) (n : Nat) (ag : Bool) (a : Opd) : Option (AV × AS) :=
  match loadA σ n ag (evA ts a) with | some v => some (v, σ) | none => none
noncomputable def exStore (σ : AS) (ts : TM) (n : Nat) (a : Opd) (x : Opd) : Option (AV × AS) :=
  match storeA σ n (evA ts a) (evA ts x) with | some σ' => some (undefA, σ') | none => none
noncomputable def exNilck (σ : AS) (ts : TM) (x : Opd) : Option (AV × AS) :=
  match evA ts x with | .ptr b o => some (.ptr b o, σ) | .fn f a c => some (.fn f a c, σ) | _ => none
noncomputable def exBin (σ : AS) (ts : TM) (op : BinOp) (x : Opd) (y : Opd) : Option (AV × AS) :=
  match binA op (evA ts x) (evA ts y) with | some v => some (v, σ) | none => none
noncomputable def exEq (σ : AS) (ts : TM) (k : EqK) (neg : Bool) (x : Opd) (y : Opd) : Option (AV × AS) :=
  match eqA k (evA ts x) (evA ts y) with | some t => some (.bool (bif neg then !t else t), σ) | none => none
noncomputable def exUn (σ : AS) (ts : TM) (op : UnOp) (x : Opd) : Option (AV × AS) :=
  match unA op (evA ts x) with | some v => some (v, σ) | none => none
noncomputable def exConvI (σ : AS) (ts : TM) (k : IntKind) (x : Opd) : Option (AV × AS) :=
  match evA ts x with | .int _ n => some (.int k (wrapA k n), σ) | _ => none
noncomputable def exConvS (σ : AS) (ts : TM) (x : Opd) : Option (AV × AS) :=
  match evA ts x with | .str s => some (.str s, σ) | _ => none
noncomputable def exB2s (σ : AS) (ts : TM) (x : Opd) : Option (AV × AS) :=
  match evA ts x with
    | .nilsl => some (.str [], σ)
    | .empsl => some (.str [], σ)
    | .sl b o n c ex => match firstA σ 1 n (.sl b o n c ex) with
      | some l => match avBytes l with | some s => some (.str s, σ) | none => none
      | none => none
    | _ => none
noncomputable def exMkfn (σ : AS) (ts : TM) (f : FuncId) (first : List Opd) (cap : List Opd) : Option (AV × AS) :=
  some (.fn f (evL ts first) (evL ts cap), σ)
noncomputable def exMkmap (σ : AS) (ts : TM) (r : Option Opd) : Option (AV × AS) :=
  match r with
    | none => some (.map σ.next, σ.alloc (.amap []))
    | some x => match evA ts x with | .int _ _ => some (.map σ.next, σ.alloc (.amap [])) | _ => none
noncomputable def exMksl (σ : AS) (ts : TM) (e : TypeId) (z : List AV) (lim : Nat) (l : Opd) (c : Opd) : Option (AV × AS) :=
  match asNat (evA ts l), asNat (evA ts c) with
    | some n, some m => bif Nat.ble n m && Nat.ble m lim then some (.sl σ.next 0 n m true, σ.alloc (.cells false true e (repl z m))) else none
    | _, _ => none
noncomputable def exSlstr (σ : AS) (ts : TM) (x : Opd) (lo : Option Opd) (hi : Option Opd) : Option (AV × AS) :=
  match evA ts x with
    | .str s => match boundA ts hi s.length s.length with
      | none => none
      | some h => match boundA ts lo 0 h with
        | none => none
        | some l => some (.str ((s.take h).drop l), σ)
    | _ => none
noncomputable def exSlsl (σ : AS) (ts : TM) (sz : Nat) (x : Opd) (lo : Option Opd) (hi : Option Opd) (mx : Option Opd) : Option (AV × AS) :=
  match evA ts x with
    | .nilsl => match boundA ts mx 0 0 with
      | none => none
      | some m => match boundA ts hi 0 m with
        | none => none
        | some h => match boundA ts lo 0 h with
          | none => none
          | some l => some (.nilsl, σ)
    | .sl b o n c ex => match sliceS ts sz b o n c ex lo hi mx with | some v => some (v, σ) | none => none
    | _ => none
noncomputable def exSlarr (σ : AS) (ts : TM) (n : Nat) (sz : Nat) (x : Opd) (lo : Option Opd) (hi : Option Opd) (mx : Option Opd) : Option (AV × AS) :=
  match evA ts x with
    | .ptr b o => match boundA ts mx n n with
      | none => none
      | some m => match boundA ts hi n m with
        | none => none
        | some h => match boundA ts lo 0 h with
          | none => none
          | some l => some (.sl b (bif Nat.beq m l then o else o + l * sz) (h - l) (m - l) true, σ)
    | _ => none
noncomputable def exFaddr (σ : AS) (ts : TM) (off : Nat) (x : Opd) : Option (AV × AS) :=
  match evA ts x with | .ptr b o => some (.ptr b (Nat.add o off), σ) | _ => none
noncomputable def exField (σ : AS) (ts : TM) (off : Nat) (n : Nat) (ag : Bool) (x : Opd) : Option (AV × AS) :=
  match evA ts x with
    | .agg cs => match getRange cs off n with
      | some r => match wrapUp ag r with | some v => some (v, σ) | none => none
      | none => none
    | _ => none
noncomputable def exIdxA (σ : AS) (ts : TM) (n : Nat) (sz : Nat) (x : Opd) (i : Opd) : Option (AV × AS) :=
  match evA ts x, asNat (evA ts i) with
    | .ptr b o, some j => bif Nat.blt j n then some (.ptr b (Nat.add o (Nat.mul j sz)), σ) else none
    | _, _ => none
noncomputable def exIdxS (σ : AS) (ts : TM) (sz : Nat) (x : Opd) (i : Opd) : Option (AV × AS) :=
  match evA ts x, asNat (evA ts i) with
    | .sl b o n _ _, some j => bif Nat.blt j n then some (.ptr b (Nat.add o (Nat.mul j sz)), σ) else none
    | _, _ => none
noncomputable def exIdxStr (σ : AS) (ts : TM) (x : Opd) (i : Opd) : Option (AV × AS) :=
  match evA ts x, asNat (evA ts i) with
    | .str s, some j => match s[j]? with
      | some b => some (.int .u8 (.ofNat b.toNat), σ)
      | none => none
    | _, _ => none
noncomputable def exIdxAgg (σ : AS) (ts : TM) (n : Nat) (sz : Nat) (ag : Bool) (x : Opd) (i : Opd) : Option (AV × AS) :=
  match evA ts x, asNat (evA ts i) with
    | .agg cs, some j => bif Nat.blt j n then (match getRange cs (j * sz) sz with
      | some r => match wrapUp ag r with | some v => some (v, σ) | none => none
      | none => none) else none
    | _, _ => none
noncomputable def exLookup (σ : AS) (ts : TM) (k : EqK) (z : AV) (ok : Bool) (m : Opd) (x : Opd) : Option (AV × AS) :=
  bif !(keyOk k (evA ts x)) then none else
  match mapAt σ (evA ts m) with
    | none => none
    | some l => match mapFind k (evA ts x) l with
      | none => none
      | some none => some (bif ok then .tup [z, .bool false] else z, σ)
      | some (some v) => some (bif ok then .tup [v, .bool true] else v, σ)
noncomputable def exMapup (σ : AS) (ts : TM) (k : EqK) (m : Opd) (x : Opd) (v : Opd) : Option (AV × AS) :=
  bif !(keyOk k (evA ts x)) then none else
  match evA ts m with
    | .map b => match σ.get b with
      | some (.amap l) => match mapPut k (evA ts x) (evA ts v) l with
        | some l' => some (undefA, σ.put b (some (.amap l')))
        | none => none
      | _ => none
    | _ => none
noncomputable def exDel (σ : AS) (ts : TM) (k : EqK) (m : Opd) (x : Opd) : Option (AV × AS) :=
  bif !(keyOk k (evA ts x)) then none else
  match evA ts m with
    | .map b => match σ.get b with
      | some (.amap l) => match mapDel k (evA ts x) l with
        | some l' => some (undefA, σ.put b (some (.amap l')))
        | none => none
      | _ => none
    | _ => none
noncomputable def exExt (σ : AS) (ts : TM) (x : Opd) (i : Nat) : Option (AV × AS) :=
  match evA ts x with
    | .tup l => match l[i]? with | some v => some (v, σ) | none => none
    | _ => none
noncomputable def exLenC (σ : AS) (ts : TM) (n : Nat) (x : Opd) : Option (AV × AS) :=
  some (.int .i64 (.ofNat n), σ)
noncomputable def exLenM (σ : AS) (ts : TM) (x : Opd) : Option (AV × AS) :=
  match mapAt σ (evA ts x) with | some l => some (.int .i64 (.ofNat l.length), σ) | none => none
noncomputable def exLenS (σ : AS) (ts : TM) (x : Opd) : Option (AV × AS) :=
  match evA ts x with
  | .nilsl => some (.int .i64 0, σ)
  | .empsl => some (.int .i64 0, σ)
  | .sl _ _ n _ _ => some (.int .i64 (.ofNat n), σ)
  | _ => none
noncomputable def exLenStr (σ : AS) (ts : TM) (x : Opd) : Option (AV × AS) :=
  match evA ts x with
  | .str s => some (.int .i64 (.ofNat s.length), σ)
  | _ => none
noncomputable def exMn (σ : AS) (ts : TM) (x : Opd) (y : Opd) : Option (AV × AS) :=
  match evA ts x, evA ts y with | .int k a, .int _ b => some (.int k (bif ltB b a then b else a), σ) | _, _ => none
noncomputable def exMx (σ : AS) (ts : TM) (x : Opd) (y : Opd) : Option (AV × AS) :=
  match evA ts x, evA ts y with | .int k a, .int _ b => some (.int k (bif ltB a b then b else a), σ) | _, _ => none
noncomputable def exApp (σ : AS) (ts : TM) (e : TypeId) (sz : Nat) (bytes : Nat) (s : Opd) (x : Opd) : Option (AV × AS) :=
  appA σ e sz bytes (evA ts s) (evA ts x)
noncomputable def exCopy (σ : AS) (ts : TM) (sz : Nat) (d : Opd) (x : Opd) : Option (AV × AS) :=
  match lenV (evA ts x), lenV (evA ts d) with
    | some a, some b => match firstA σ sz (min a b) (evA ts x) with
      | some new => match evA ts d with
        | .sl g o _ _ _ => bif Nat.beq (min a b) 0 then some (.int .i64 0, σ) else match writeA σ g o new with
          | some σ' => some (.int .i64 (.ofNat (min a b)), σ')
          | none => none
        | .nilsl => some (.int .i64 0, σ)
        | _ => none
      | none => none
    | _, _ => none
noncomputable def exClrM (σ : AS) (ts : TM) (x : Opd) : Option (AV × AS) :=
  match evA ts x with
    | .map b => match σ.get b with | some (.amap _) => some (undefA, σ.put b (some (.amap []))) | _ => none
    | _ => none
noncomputable def exClrS (σ : AS) (ts : TM) (z : List AV) (x : Opd) : Option (AV × AS) :=
  match evA ts x with
    | .nilsl => some (undefA, σ)
    | .empsl => some (undefA, σ)
    | .sl b o n _ _ => bif Nat.beq n 0 then some (undefA, σ) else match writeA σ b o (repl z n) with | some σ' => some (undefA, σ') | none => none
    | _ => none
/-- One operation that is no call. -/
noncomputable def execA (σ : AS) (ts : TM) : AOp → Option (AV × AS)
  | .mv x => exMv σ ts x
  | .pick c a b => exPick σ ts c a b
  | .alloc e z => exAlloc σ ts e z
  | .box e x => exBox σ ts e x
  | .build z ps => exBuild σ ts z ps
  | .bslice e n z ps => exBslice σ ts e n z ps
  | .load n ag a => exLoad σ ts n ag a
  | .store n a x => exStore σ ts n a x
  | .nilck x => exNilck σ ts x
  | .bin op x y => exBin σ ts op x y
  | .eq k neg x y => exEq σ ts k neg x y
  | .un op x => exUn σ ts op x
  | .convI k x => exConvI σ ts k x
  | .convS x => exConvS σ ts x
  | .b2s x => exB2s σ ts x
  | .mkfn f first cap => exMkfn σ ts f first cap
  | .mkmap r => exMkmap σ ts r
  | .mksl e z lim l c => exMksl σ ts e z lim l c
  | .slstr x lo hi => exSlstr σ ts x lo hi
  | .slsl sz x lo hi mx => exSlsl σ ts sz x lo hi mx
  | .slarr n sz x lo hi mx => exSlarr σ ts n sz x lo hi mx
  | .faddr off x => exFaddr σ ts off x
  | .field off n ag x => exField σ ts off n ag x
  | .idxA n sz x i => exIdxA σ ts n sz x i
  | .idxS sz x i => exIdxS σ ts sz x i
  | .idxStr x i => exIdxStr σ ts x i
  | .idxAgg n sz ag x i => exIdxAgg σ ts n sz ag x i
  | .lookup k z ok m x => exLookup σ ts k z ok m x
  | .mapup k m x v => exMapup σ ts k m x v
  | .del k m x => exDel σ ts k m x
  | .ext x i => exExt σ ts x i
  | .lenC n x => exLenC σ ts n x
  | .lenM x => exLenM σ ts x
  | .lenS x => exLenS σ ts x
  | .lenStr x => exLenStr σ ts x
  | .mn x y => exMn σ ts x y
  | .mx x y => exMx σ ts x y
  | .app e sz bytes s x => exApp σ ts e sz bytes s x
  | .copy sz d x => exCopy σ ts sz d x
  | .clrM x => exClrM σ ts x
  | .clrS z x => exClrS σ ts z x
  | .call _ _ => none

abbrev CallF := FuncId → List AV → AS → Option (AV × AS)
abbrev CodeF := ACode → TM → AS → Option (AX × TM × AS)
/-- What may be called, and run, from here on. -/
structure Lv where
  call : CallF
  code : CodeF

noncomputable def bindA (ts : TM) : List Nat → List AV → Option TM
  | [], [] => some ts
  | p :: ps, a :: r => bindA (ts.put p a) ps r
  | _, _ => none

/-- One round of a loop over a function. -/
noncomputable def roundA (s : Lv) (b : Nat) (args : List AV) (σ : AS) : Option (AV × AS) :=
  match σ.get b with
  | some (.aloop none ts ps asg body) => match bindA ts ps args with
    | none => none
    | some ts0 => match s.code asg ts0 (σ.put b none) with
      | some (.normal, ts1, σ1) => match s.code body ts1 σ1 with
        | some (.normal, _, σ2) => some (.bool true, σ2.put b (some (.aloop none ts ps asg body)))
        | some (.exit id, _, σ2) => some (.bool false, σ2.put b (some (.aloop (some (.exit id)) ts ps asg body)))
        | some (.ret, _, σ2) => some (.bool false, σ2.put b (some (.aloop (some .ret) ts ps asg body)))
        | none => none
      | _ => none
  | _ => none

noncomputable def opA (s : Lv) (σ : AS) (ts : TM) : AOp → Option (AV × AS)
  | .call f args => match evA ts f with
    | .fn g first cap => s.call g (first ++ evL ts args ++ cap) σ
    | .yld b => roundA s b (evL ts args) σ
    | _ => none
  | o => execA σ ts o

noncomputable def putA (ts : TM) (d : Option Nat) (v : AV) : TM := d.casesOn ts (fun d => ts.put d v)

noncomputable def wantedA (ts : TM) (g : Option (Nat × Bool)) : Bool :=
  match g with
  | none => true
  | some (t, want) => match ts.at t with
    | .bool b => b == want
    | _ => false

noncomputable def opsA (s : Lv) (ops : List AOper) : TM → AS → Option (TM × AS) :=
  ops.rec (fun ts σ => some (ts, σ)) (fun o _ ih ts σ =>
    match wantedA ts o.guard with
    | true => match opA s σ ts o.op with
      | some (v, σ') => ih (putA ts o.dst v) σ'
      | none => none
    | false => ih (putA ts o.dst undefA) σ)

/-! ### Regions that draw their order -/
/-- What an operation that makes a block makes, if that has the number 'b'. -/
noncomputable def allocA (ts : TM) (b : Nat) : AOp → Option (AV × AObj)
  | .alloc e z => some (.ptr b 0, .cells false true e z)
  | .box e x => bif isTup (evA ts x) then none else some (.ptr b 0, .cells false true e (cellsOf (evA ts x)))
  | .bslice e n z ps => match fillA ts ps z with | some cs => some (.sl b 0 n n true, .cells false true e cs) | none => none
  | .mkmap none => some (.map b, .amap [])
  | .mkmap (some x) => match evA ts x with | .int _ _ => some (.map b, .amap []) | _ => none
  | .mksl e z lim l c => match asNat (evA ts l), asNat (evA ts c) with
    | some n, some m => bif Nat.ble n m && Nat.ble m lim then some (.sl b 0 n m true, .cells false true e (repl z m)) else none
    | _, _ => none
  | _ => none
noncomputable def stepD (s : Lv) (b : Nat) (k : DK) (o : AOper) (ts : TM) (σ : AS) : Option (AV × AS) :=
  match wantedA ts o.guard with
  | false => some (undefA, σ)
  | true => match k with
    | .alloc => match allocA ts b o.op with | some (v, x) => some (v, σ.put b (some x)) | none => none
    | _ => opA s σ ts o.op
/-- One order: the text's. With what was there ahead of each operation, and what it yielded. -/
noncomputable def traceD (s : Lv) : List DK → List AOper → Nat → TM → AS → Option (TM × AS × List (TM × AS × AV))
  | k :: ks, o :: os, b, ts, σ => match stepD s b k o ts σ with
    | some (v, σ') => match traceD s ks os (Nat.succ b) (putA ts o.dst v) σ' with
      | some (ts', σ'', l) => some (ts', σ'', (ts, σ, v) :: l)
      | none => none
    | none => none
  | [], [], _, ts, σ => some (ts, σ, [])
  | _, _, _, _, _ => none
/-- What there is when so many acts are done. -/
def stagesD : List DK → List (TM × AS × AV) → AS → List AS
  | k :: ks, t :: l, z => match k with
    | .eff => t.2.1 :: stagesD ks l z
    | _ => stagesD ks l z
  | _, _, z => [z]
noncomputable def readOk (ts : TM) (o : AOper) (v : AV) (σ : AS) : Bool :=
  match execA σ ts o.op with
  | some (v', _) => eqAV 8 v' v
  | none => false
noncomputable def allOk (ts : TM) (o : AOper) (v : AV) : List AS → Bool
  | [] => true
  | σ :: r => bif readOk ts o v σ then allOk ts o v r else false
noncomputable def checkD (st : List AS) : List DK → List AOper → List (TM × AS × AV) → Bool
  | k :: ks, o :: os, t :: l => match k with
    | .read lo hi => match wantedA t.1 o.guard with
      | true => bif allOk t.1 o t.2.2 ((st.drop lo).take (Nat.succ hi - lo)) then checkD st ks os l else false
      | false => checkD st ks os l
    | _ => checkD st ks os l
  | _, _, _ => true
noncomputable def regD (s : Lv) (ops : List AOper) (ks : List DK) (ts : TM) (σ : AS) : Option (TM × AS) :=
  match traceD s ks ops σ.next ts ⟨σ.h, σ.next + ops.length⟩ with
  | some (ts', σ', l) => bif checkD (stagesD ks l σ') ks ops l then some (ts', σ') else none
  | none => none

/-- Rounds: at most 'n'. -/
noncomputable def iterA (c : TM → AS → Option (AX × TM × AS)) (n : Nat) : TM → AS → Option (AX × TM × AS) :=
  n.rec (fun _ _ => none) (fun _ ih ts σ => match c ts σ with
    | some (.normal, ts', σ') => ih ts' σ'
    | r => r)

abbrev StepF := TM → AS → Option (AX × TM × AS)
noncomputable def cdReg (s : Lv) (ops : List AOper) (dr : Option (List DK)) : StepF := fun ts σ => match dr with
    | none => match opsA s ops ts σ with
      | some (ts', σ') => some (.normal, ts', σ')
      | none => none
    | some ks => match regD s ops ks ts σ with
      | some (ts', σ') => some (.normal, ts', σ')
      | none => none
noncomputable def cdSeq (a b : StepF) : StepF := fun ts σ => match a ts σ with
    | some (.normal, ts', σ') => b ts' σ'
    | r => r
noncomputable def cdCond (c : Opd) (a b : StepF) : StepF := fun ts σ => match evA ts c with
    | .bool true => a ts σ
    | .bool false => b ts σ
    | _ => none
noncomputable def cdBlock (id : Nat) (c : StepF) : StepF := fun ts σ => match c ts σ with
    | some (.exit j, ts', σ') => bif Nat.beq j id then some (.normal, ts', σ') else some (.exit j, ts', σ')
    | r => r
noncomputable def cdRf (s : Lv) (f : Opd) (ps : List Nat) (asg body : ACode) : StepF := fun ts σ => match evA ts f with
    | .fn g first cap => match s.call g (first ++ .yld σ.next :: cap) (σ.alloc (.aloop none ts ps asg body)) with
      | some (_, σ2) => match σ2.get σ.next with
        | some (.aloop none _ _ _ _) => some (.normal, ts, σ2.put σ.next none)
        | some (.aloop (some ax) _ _ _ _) => some (ax, ts, σ2.put σ.next none)
        | _ => none
      | none => none
    | _ => none
noncomputable def codeA (s : Lv) (n : Nat) (c : ACode) : StepF :=
  c.rec (fun ts σ => some (.normal, ts, σ)) (fun ops dr => cdReg s ops dr) (fun _ _ a b => cdSeq a b) (fun c _ _ a b => cdCond c a b)
    (fun id _ c => cdBlock id c) (fun _ c => iterA c n) (fun id ts σ => some (.exit id, ts, σ)) (fun ts σ => some (.ret, ts, σ)) (fun f ps asg body _ _ => cdRf s f ps asg body)

noncomputable def resV (ts : TM) (σ : AS) : List ARes → Option (List AV)
  | [] => some []
  | .tmp t :: r => match resV ts σ r with | some l => some (ts.at t :: l) | none => none
  | .cell t n ag :: r => match loadA σ n ag (ts.at t), resV ts σ r with | some v, some l => some (v :: l) | _, _ => none
def resUp : List AV → AV
  | [v] => v
  | l => .tup l

/-- What is told of functions: their code, or what is proved of them otherwise. -/
inductive FSpec where
  | code (fn : AFun)
  | told (g : List AV → AS → Option (AV × AS))

noncomputable def callB (F : FuncId → Option FSpec) (s : Lv) (n : Nat) (f : FuncId) (args : List AV) (σ : AS) : Option (AV × AS) :=
  match F f with
  | none => none
  | some (.told g) => g args σ
  | some (.code fn) => bif !(Nat.ble args.length fn.ntmps) then none else match codeA s n fn.body (argsTM args 0 .nil) σ with
    | some (.normal, ts, σ') => match resV ts σ' fn.results with | some l => some (resUp l, σ') | none => none
    | some (.ret, ts, σ') => match resV ts σ' fn.results with | some l => some (resUp l, σ') | none => none
    | _ => none

/-- Calls, at most 'd' deep, with loops of at most 'n' rounds. -/
noncomputable def lvA (F : FuncId → Option FSpec) (n : Nat) (d : Nat) : Lv :=
  d.rec ⟨fun _ _ _ => none, fun _ _ _ => none⟩ (fun _ s => ⟨fun f args σ => callB F s n f args σ, fun c ts σ => codeA s n c ts σ⟩)

noncomputable def σ0 : AS := ⟨.nil, 0⟩

/-! ### How the model's code is turned -/
def ofCell : Value → Option AV
  | .bool b => some (.bool b)
  | .int k n => some (.int k n)
  | .string s => some (.str s.data.toList)
  | .pointer none => some .nilptr
  | .slice none 0 0 => some .nilsl
  | .map none => some .nilmap
  | .nilFunc => some .nilfn
  | _ => none
def ofCells : List Value → Option (List AV)
  | [] => some []
  | v :: r => match ofCell v, ofCells r with | some a, some l => some (a :: l) | _, _ => none
def ofV : Value → Option AV
  | .agg cs => match ofCells cs.toList with | some l => some (.agg l) | none => none
  | v => ofCell v

def cOpd : Operand → Option Opd
  | .tmp t => some (.tmp t)
  | .const v => match ofV v with | some a => some (.lit a) | none => none
  | .func f => some (.lit (.fn f [] []))
  | .global _ => none
def cOpds : List Operand → Option (List Opd)
  | [] => some []
  | x :: r => match cOpd x, cOpds r with | some a, some l => some (a :: l) | _, _ => none
def cOpt : Option Operand → Option (Option Opd)
  | none => some none
  | some x => match cOpd x with | some a => some (some a) | none => none

section
variable (P : Program)
def zeroOf (t : TypeId) : Option (List AV) :=
  match P.info? t with
  | some i => match i.zero with
    | some z => match ofCells z.cells.toList with | some l => if l.length = i.size then some l else none | none => none
    | none => none
  | none => none
def sizeAt (t : TypeId) : Option Nat := (P.info? t).map (·.size)
def aggAt (t : TypeId) : Option Bool :=
  match P.underlying t with
  | some (.struct _) => some true
  | some (.array _ _) => some true
  | some _ => some false
  | none => none

def cParts (place : Nat → Option (Nat × Nat)) : List (Nat × Operand) → Option (List (Nat × Nat × Opd))
  | [] => some []
  | (i, x) :: r => match place i, cOpd x, cParts place r with
    | some (off, size), some a, some l => some ((off, size, a) :: l)
    | _, _, _ => none
def structPlace (fs : Array Field) (j : Nat) : Option (Nat × Nat) :=
  match fs[j]? with
  | some f => match sizeAt P f.type with | some s => some (f.offset, s) | none => none
  | none => none
/-- Struct fields that all have a size. -/
def sized (fs : Array Field) : Bool := fs.toList.all fun f => (sizeAt P f.type).isSome

/-- A type all of whose cells are whole numbers, strings or bools, laid one behind the other: the kinds of its cells. -/
def flatFields (fl : TypeId → Option (List Scal)) : List Field → Nat → Option (List Scal)
  | [], _ => some []
  | f :: r, off => match fl f.type with
    | some l => if f.name ≠ "_" ∧ f.offset = off ∧ sizeAt P f.type = some l.length then (match flatFields fl r (off + l.length) with | some l' => some (l ++ l') | none => none) else none
    | none => none
def flatAt : Nat → TypeId → Option (List Scal)
  | 0, _ => none
  | d + 1, t =>
    match P.underlying t with
    | some .bool => some [.bool]
    | some (.int _) => some [.int]
    | some .string => some [.str]
    | some (.struct fs) => if P.stoodInHeld t then none else flatFields P (flatAt d) fs.toList 0
    | some (.array n e) => match flatAt d e with
      | some l => if sizeAt P e = some l.length then some (List.replicate n l).flatten else none
      | none => none
    | _ => none
def flatKind (t : TypeId) : Option EqK :=
  match flatAt P 5 t with
  | some l => some (.flat l)
  | none => none
def eqKind (t : TypeId) : Option EqK :=
  match P.underlying t with
  | some .bool => some (.sc .bool)
  | some (.pointer _) => some .ptr
  | some (.slice _) => some .slice
  | some (.map _ _) => some .map
  | some (.func _ _ _) => some .func
  | some (.struct _) => if P.eqGuardType P.depth t then none else flatKind P t
  | some (.array _ _) => if P.eqGuardType P.depth t then none else flatKind P t
  | _ => none
def keyKind (t : TypeId) : Option EqK :=
  match P.underlying t with
  | some .bool => some (.sc .bool)
  | some (.int _) => some (.sc .int)
  | some .string => some (.sc .str)
  | some (.struct _) => flatKind P t
  | some (.array _ _) => flatKind P t
  | _ => none

def cBuiltin (b : Builtin) (ts : Array TypeId) (args : List Operand) : Option AOp :=
  match b, args with
  | .len, [x] => match cOpd x, (ts[0]?).bind P.underlying with
    | some a, some .string => some (.lenStr a)
    | some a, some (.slice _) => some (.lenS a)
    | some a, some (.map _ _) => some (.lenM a)
    | some a, some (.array n _) => some (.lenC n a)
    | _, _ => none
  | .min, [x, y] => match cOpd x, cOpd y with | some a, some b => some (.mn a b) | _, _ => none
  | .max, [x, y] => match cOpd x, cOpd y with | some a, some b => some (.mx a b) | _, _ => none
  | .append, [s, x] => match cOpd s, cOpd x, (ts[0]?).bind P.underlying, (ts[1]?).bind P.underlying with
    | some a, some b, some (.slice e), some u => match P.info? e, u with
      | some i, .slice _ => if (zeroOf P e).isSome && decide (i.bytes ≤ 100000000) then some (.app e i.size i.bytes a b) else none
      | some i, .string => if (zeroOf P e).isSome && decide (i.bytes ≤ 100000000) then some (.app e i.size i.bytes a b) else none
      | _, _ => none
    | _, _, _, _ => none
  | .copy, [d, x] => match cOpd d, cOpd x, (ts[0]?).bind P.underlying with
    | some a, some b, some (.slice e) => match sizeAt P e with | some n => some (.copy n a b) | none => none
    | _, _, _ => none
  | .clear, [x] => match cOpd x, (ts[0]?).bind P.underlying with
    | some a, some (.map _ _) => some (.clrM a)
    | some a, some (.slice e) => match zeroOf P e with | some z => some (.clrS z a) | none => none
    | _, _ => none
  | .delete, [m, k] => match cOpd m, cOpd k, (ts[0]?).bind P.underlying with
    | some a, some b, some (.map kt _) => match keyKind P kt with | some q => some (.del q a b) | none => none
    | _, _, _ => none
  | _, _ => none

def cOp (o : Op) : Option AOp :=
  match o with
  | .move x | .assign x => match cOpd x with | some a => some (.mv a) | none => none
  | .pick c a b => match cOpd c, cOpd a, cOpd b with | some c, some a, some b => some (.pick c a b) | _, _, _ => none
  | .alloc e => match zeroOf P e with | some z => some (.alloc e z) | none => none
  | .box e x => match cOpd x with | some a => some (.box e a) | none => none
  | .build t parts => match zeroOf P t, P.underlying t with
    | some z, some (.struct fs) => if sized P fs then (match cParts (structPlace P fs) parts.toList with | some l => some (.build z l) | none => none) else none
    | some z, some (.array _ e) => match sizeAt P e with
      | some n => match cParts (fun i => some (i * n, n)) parts.toList with | some l => some (.build z l) | none => none
      | none => none
    | _, _ => none
  | .buildSlice t n parts => match P.underlying t with
    | some (.slice e) => match zeroOf P e with
      | some z => if n * z.length ≤ 2 ^ 24 then (match cParts (fun i => some (i * z.length, z.length)) parts.toList with | some l => some (.bslice e n (repl z n) l) | none => none) else none
      | none => none
    | _ => none
  | .load t a => match cOpd a, sizeAt P t, aggAt P t with | some a, some n, some g => some (.load (if g then n else 1) g a) | _, _, _ => none
  | .store t a x => match cOpd a, cOpd x, sizeAt P t with | some a, some x, some n => some (.store n a x) | _, _, _ => none
  | .nilCheck x => match cOpd x with | some a => some (.nilck a) | none => none
  | .binOp op t x y _ => match cOpd x, cOpd y with
    | some a, some b => match P.underlying t, op with
      | some (.int _), _ => some (.bin op a b)
      | some .string, _ => some (.bin op a b)
      | some _, .eql => match eqKind P t with | some k => some (.eq k false a b) | none => none
      | some _, .neq => match eqKind P t with | some k => some (.eq k true a b) | none => none
      | _, _ => none
    | _, _ => none
  | .unOp op _ x => match cOpd x with | some a => some (.un op a) | none => none
  | .convert s d x => match cOpd x, P.underlying s, P.underlying d with
    | some a, some (.int _), some (.int k) => some (.convI k a)
    | some a, some .string, some .string => some (.convS a)
    | some a, some (.slice e), some .string => match P.underlying e with | some (.int .u8) => some (.b2s a) | _ => none
    | _, _, _ => none
  | .makeFunc (.func f) first cap => match cOpds first.toList, cOpds cap.toList with | some a, some b => some (.mkfn f a b) | _, _ => none
  | .makeMap t r => match P.underlying t, cOpt r with | some (.map _ _), some r => some (.mkmap r) | _, _ => none
  | .makeSlice t l c => match P.underlying t, cOpd l, cOpd c with
    | some (.slice e), some l, some c => match zeroOf P e, P.info? e with
      | some z, some i => some (.mksl e z (if i.bytes = 0 then 0 else 1000000000 / i.bytes) l c)
      | _, _ => none
    | _, _, _ => none
  | .slice t x lo hi mx => match P.underlying t, cOpd x, cOpt lo, cOpt hi, cOpt mx with
    | some .string, some x, some lo, some hi, some none => some (.slstr x lo hi)
    | some (.slice e), some x, some lo, some hi, some mx => match sizeAt P e with
      | some n => if mx.isSome && hi.isNone then none else some (.slsl n x lo hi mx)
      | none => none
    | some (.array k e), some x, some lo, some hi, some mx => match sizeAt P e with
      | some n => if mx.isSome && hi.isNone then none else some (.slarr k n x lo hi mx)
      | none => none
    | _, _, _, _, _ => none
  | .fieldAddr s x f => match P.underlying s, cOpd x with
    | some (.struct fs), some a => match fs[f]? with
      | some g => match sizeAt P g.type with | some n => if n = 0 then none else some (.faddr g.offset a) | none => none
      | none => none
    | _, _ => none
  | .field s x f => match P.underlying s, cOpd x with
    | some (.struct fs), some a => match fs[f]? with
      | some g => match sizeAt P g.type, aggAt P g.type with | some n, some ag => some (.field g.offset (if ag then n else 1) ag a) | _, _ => none
      | none => none
    | _, _ => none
  | .indexAddr t x i => match P.underlying t, cOpd x, cOpd i with
    | some (.array n e), some a, some j => match sizeAt P e with | some k => some (.idxA n k a j) | none => none
    | some (.slice e), some a, some j => match sizeAt P e with | some k => some (.idxS k a j) | none => none
    | _, _, _ => none
  | .index t x i => match P.underlying t, cOpd x, cOpd i with
    | some .string, some a, some j => some (.idxStr a j)
    | some (.array n e), some a, some j => match sizeAt P e, aggAt P e with | some k, some ag => if ag || k == 1 then some (.idxAgg n k ag a j) else none | _, _ => none
    | _, _, _ => none
  | .lookup t m k ok => match P.underlying t, cOpd m, cOpd k with
    | some (.map kt e), some a, some b => match keyKind P kt, P.info? e with
      | some q, some i => match i.zero with
        | some z => match ofV z with | some z => some (.lookup q z ok a b) | none => none
        | none => none
      | _, _ => none
    | _, _, _ => none
  | .mapUpdate t m k v => match P.underlying t, cOpd m, cOpd k, cOpd v with
    | some (.map kt _), some a, some b, some c => match keyKind P kt with | some q => some (.mapup q a b c) | none => none
    | _, _, _, _ => none
  | .extract x i => match cOpd x with | some a => some (.ext a i) | none => none
  | .call c => match c.callee with
    | .value f => match cOpd f, cOpds c.args.toList with | some g, some l => some (.call g l) | _, _ => none
    | .builtin b => cBuiltin P b c.argTypes c.args.toList
    | _ => none
  | _ => none

def cGuard (ops : Array Oper) (o : Oper) : Option (Option (Nat × Bool)) :=
  match o.guard with
  | none => some none
  | some (j, want) => match ops[j]? with
    | some p => match p.dst with | some d => some (some (d, want)) | none => none
    | none => none
def dstOk (N : Nat) : Option Tmp → Bool
  | none => true
  | some d => decide (d < N)
def cOper (N : Nat) (ops : Array Oper) (o : Oper) : Option AOper :=
  match cOp P o.op, cGuard ops o with
  | some a, some g => if dstOk N o.dst then some ⟨o.dst, a, g⟩ else none
  | _, _ => none
def cOpers (N : Nat) (all : Array Oper) : List Oper → Option (List AOper)
  | [] => some []
  | o :: r => match cOper P N all o, cOpers N all r with | some a, some l => some (a :: l) | _, _ => none
/-! ### How a region that draws its order is looked at -/
def sOpd : Opd → List Nat
  | .tmp t => [t]
  | .lit _ => []
def sOpds : List Opd → List Nat
  | [] => []
  | x :: r => sOpd x ++ sOpds r
def sOpt : Option Opd → List Nat
  | none => []
  | some x => sOpd x
def sParts : List (Nat × Nat × Opd) → List Nat
  | [] => []
  | (_, _, x) :: r => sOpd x ++ sParts r
/-- The slots that an operation looks at. -/
def slotsOf : AOp → List Nat
  | .mv x | .box _ x | .load _ _ x | .nilck x | .un _ x | .convI _ x | .convS x | .b2s x | .faddr _ x | .field _ _ _ x | .ext x _ | .lenM x | .lenS x | .lenStr x | .clrM x | .clrS _ x => sOpd x
  | .pick c x y => sOpd c ++ sOpd x ++ sOpd y
  | .alloc _ _ | .lenC _ _ => []
  | .build _ ps | .bslice _ _ _ ps => sParts ps
  | .store _ x y | .bin _ x y | .eq _ _ x y | .mksl _ _ _ x y | .idxA _ _ x y | .idxS _ x y | .idxStr x y | .idxAgg _ _ _ x y | .lookup _ _ _ x y | .del _ x y | .mn x y | .mx x y | .app _ _ _ x y | .copy _ x y => sOpd x ++ sOpd y
  | .mkfn _ p q => sOpds p ++ sOpds q
  | .mkmap r => sOpt r
  | .slstr x lo hi => sOpd x ++ sOpt lo ++ sOpt hi
  | .slsl _ x lo hi mx | .slarr _ _ x lo hi mx => sOpd x ++ sOpt lo ++ sOpt hi ++ sOpt mx
  | .mapup _ m x v => sOpd m ++ sOpd x ++ sOpd v
  | .call f args => sOpd f ++ sOpds args
def slotsO (o : AOper) : List Nat := match o.guard with | none => slotsOf o.op | some (t, _) => t :: slotsOf o.op
/-- 0: slots alone; 1: reads; 2: makes a block; 3: acts. -/
def classOf : AOp → Nat
  | .load .. | .lookup .. | .lenM .. | .b2s .. => 1
  | .alloc .. | .box .. | .bslice .. | .mkmap .. | .mksl .. => 2
  | .store .. | .mapup .. | .del .. | .app .. | .copy .. | .clrM .. | .clrS .. | .call .. => 3
  | _ => 0
/-- The operations (as bits) that come ahead of one, from those of which that is known. -/
def edgeMask (acc : List Nat) (i : Nat) : List Edge → Option Nat
  | [] => some 0
  | e :: r => match edgeMask acc i r with
    | none => none
    | some m => match Region.binds .any e with
      | true => bif Nat.blt e.on i then some (Nat.lor m (Nat.lor (Nat.pow 2 e.on) (acc.getD e.on 0))) else none
      | false => some m
def masksD : List Oper → List Nat → Option (List Nat)
  | [], acc => some acc
  | o :: r, acc => match edgeMask acc acc.length o.after.toList with
    | some m => masksD r (acc ++ [m])
    | none => none
def hasBit (m j : Nat) : Bool := Nat.beq (Nat.mod (Nat.div m (Nat.pow 2 j)) 2) 1
def maskAt (ms : List Nat) (i : Nat) : Nat := ms.getD i 0
/-- The operation that writes the slot 't', if there is one. -/
def writer (t : Nat) : List AOper → Nat → Option Nat
  | [], _ => none
  | o :: r, i => match o.dst with
    | some d => bif Nat.beq d t then some i else writer t r (Nat.succ i)
    | none => writer t r (Nat.succ i)
def slotOk (ops : List AOper) (ms : List Nat) (i t : Nat) : Bool :=
  match writer t ops 0 with
  | none => true
  | some j => hasBit (maskAt ms i) j || hasBit (maskAt ms j) i || Nat.beq i j
def slotsOk (ops : List AOper) (ms : List Nat) : List AOper → Nat → Bool
  | [], _ => true
  | o :: r, i => (slotsO o).all (slotOk ops ms i) && slotsOk ops ms r (Nat.succ i)
/-- No slot is written twice. -/
def onceD (ops : List AOper) : List AOper → Nat → Bool
  | [], _ => true
  | o :: r, i => (match o.dst with | none => true | some d => (match writer d ops 0 with | some j => Nat.beq j i | none => false)) && onceD ops r (Nat.succ i)
def effsD : List AOper → Nat → List Nat
  | [], _ => []
  | o :: r, i => bif Nat.beq (classOf o.op) 3 then i :: effsD r (Nat.succ i) else effsD r (Nat.succ i)
def chainD (ms : List Nat) : List Nat → Bool
  | a :: b :: r => hasBit (maskAt ms b) a && chainD ms (b :: r)
  | _ => true
def kindD (ms E : List Nat) (i : Nat) (o : AOper) : DK :=
  match classOf o.op with
  | 0 => .pure
  | 1 => .read (E.countP fun e => hasBit (maskAt ms i) e) (E.countP fun e => !hasBit (maskAt ms e) i)
  | 2 => .alloc
  | _ => .eff
def kindsD (ms E : List Nat) : List AOper → Nat → List DK
  | [], _ => []
  | o :: r, i => kindD ms E i o :: kindsD ms E r (Nat.succ i)
def cDraw (ops : List Oper) (l : List AOper) : Option (List DK) :=
  match masksD ops [] with
  | none => none
  | some ms => bif slotsOk l ms l 0 && onceD l l 0 && chainD ms (effsD l 0) then some (kindsD ms (effsD l 0) l 0) else none
/-- No loop over a function in it. -/
def noRf : ACode → Bool
  | .seq a b => noRf a && noRf b
  | .cond _ a b => noRf a && noRf b
  | .block _ c => noRf c
  | .loop c => noRf c
  | .rf .. => false
  | _ => true
def cCode (N : Nat) : Code → Option ACode
  | .skip => some .skip
  | .region _ ops draw => match cOpers P N ops ops.toList with
    | some l => match draw with
      | false => some (.reg l none)
      | true => match cDraw ops.toList l with
        | some ks => some (.reg l (some ks))
        | none => none
    | none => none
  | .seq a b => match cCode N a, cCode N b with | some a, some b => some (.seq a b) | _, _ => none
  | .cond c a b => match cOpd c, cCode N a, cCode N b with | some c, some a, some b => some (.cond c a b) | _, _, _ => none
  | .block id c => match cCode N c with | some c => some (.block id c) | none => none
  | .loop c => match cCode N c with | some c => some (.loop c) | none => none
  | .exit id => some (.exit id)
  | .ret => some .ret
  | .rangeFunc f ps a b => match cOpd f, cCode N a, cCode N b with | some f, some a, some b => if ps.toList.all (fun d => decide (d < N)) && noRf a && noRf b then some (.rf f ps.toList a b) else none | _, _, _ => none
  | _ => none
def cRes : List ResultVar → Option (List ARes)
  | [] => some []
  | .tmp t :: r => match cRes r with | some l => some (.tmp t :: l) | none => none
  | .cell a t :: r => match sizeAt P t, aggAt P t, cRes r with | some n, some g, some l => some (.cell a (if g then n else 1) g :: l) | _, _, _ => none
def cFun (fn : Func) : Option AFun :=
  match fn.body with
  | some c => match cCode P fn.ntmps c, cRes P fn.results.toList with
    | some b, some rs => some ⟨fn.ntmps, rs, b⟩
    | _, _ => none
  | none => none
end
end Go.Av
