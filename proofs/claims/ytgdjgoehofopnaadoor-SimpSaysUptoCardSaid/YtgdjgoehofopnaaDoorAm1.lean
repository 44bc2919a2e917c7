/- The abstract machine: immutable values D, states, operations, and the predicates opP, wpo, wpc by which a function's body is stepped through without memory. -/
import Derived.WalkKit
namespace Go.Am
open Go

/-- Values of the abstract machine: a slice is its elements (list; own: the one that may be appended to; ref: into an object that may be written). -/
inductive D where
  | bool (b : Bool)
  | int (k : IntKind) (n : Int)
  | flt (k : FloatKind) (n : Nat)
  | str (s : List UInt8)
  | nilp
  | ptr (b off : Nat)
  | nils
  | list (xs : List D)
  | own (e : Nat) (xs : List D)
  | ref (b off len sz : Nat)
  | imm (cs : List D)
  | fn (f : Nat) (cs : List D)
  | nilf
  | nili
  | iface (t : Nat) (d : D)
  | agg (cs : List D)
  | tup (ds : List D)
  deriving Inhabited

namespace D
/-- The cells of a value. -/
def cells : D → List D
  | .agg cs => cs
  | d => [d]
/-- A value of one cell. -/
def one : D → Bool
  | .agg _ => false
  | .tup _ => false
  | _ => true
/-- A copy may be read, not appended to. -/
def copy : D → D
  | .own _ xs => .list xs
  | d => d
mutual
/-- Nothing in it leads to an object. (A list's elements never do.) -/
def closed : D → Bool
  | .ptr _ _ => false
  | .ref _ _ _ _ => false
  | .fn _ cs => closedL cs
  | .iface _ d => d.closed
  | .agg cs => closedL cs
  | .tup cs => closedL cs
  | _ => true
def closedL : List D → Bool
  | [] => true
  | d :: ds => d.closed && closedL ds
end
/-- An element of a list. -/
def elem (sz : Nat) (d : D) : Bool := d.cells.length == sz && d.closed && d.cells.all D.one
end D

/-- What a temporary holds. -/
inductive Slot where
  | und
  | no
  | d (x : D)
  | var (cs : List D)
  | loc (s off : Nat)
  deriving Inhabited

structure St where
  env : Nat → Slot
  H : List (Option (List D))

/-- Operands: a copy of a temporary, one that takes the right to append along, a constant. -/
inductive AO where
  | t (n : Nat)
  | x (n : Nat)
  | k (d : D)
  deriving Inhabited

/-- One that hands nothing on. -/
def AO.notX : AO → Bool
  | .x _ => false
  | _ => true

def upd (e : Nat → Slot) (n : Nat) (s : Slot) : Nat → Slot := fun m => if m = n then s else e m
def inval (n : Nat) : Slot → Slot
  | .loc s o => if s = n then .und else .loc s o
  | s => s
def updv (e : Nat → Slot) (n : Nat) (cs : List D) : Nat → Slot := fun m => if m = n then .var cs else inval n (e m)

def St.put (σ : St) (dst : Option Nat) (s : Slot) : St :=
  match dst with
  | none => σ
  | some n => { σ with env := upd σ.env n s }

def St.val (σ : St) : AO → Option D
  | .t n | .x n => match σ.env n with | .d d => some d.copy | _ => none
  | .k d => some d.copy

def St.vals (σ : St) : List AO → Option (List D)
  | [] => some []
  | a :: as => match σ.val a, σ.vals as with | some d, some ds => some (d :: ds) | _, _ => none

/-- Places. -/
inductive Lv where
  | var (t off : Nat)
  | obj (b off : Nat)
  | imm (cs : List D)

def St.lv (σ : St) (n : Nat) : Option Lv :=
  match σ.env n with
  | .var _ => some (.var n 0)
  | .loc s off => some (.var s off)
  | .d (.ptr b off) => some (.obj b off)
  | .d (.imm cs) => some (.imm cs)
  | _ => none

def cut (cs : List D) (off sz : Nat) : Option (List D) := if off + sz ≤ cs.length then some ((cs.drop off).take sz) else none
def splice (cs : List D) (off : Nat) (ds : List D) : Option (List D) :=
  if off + ds.length ≤ cs.length then some (cs.take off ++ ds ++ cs.drop (off + ds.length)) else none

def St.obj (σ : St) (b : Nat) : Option (List D) := match σ.H[b]? with | some (some cs) => some cs | _ => none

def St.rd (σ : St) (l : Lv) (sz : Nat) : Option (List D) :=
  match l with
  | .var t off => match σ.env t with | .var cs => cut cs off sz | _ => none
  | .obj b off => match σ.obj b with | some cs => cut cs off sz | none => none
  | .imm cs => cut cs 0 sz

def St.wr (σ : St) (l : Lv) (ds : List D) : Option St :=
  match l with
  | .var t off => match σ.env t with
    | .var cs => match splice cs off ds with | some cs' => some { σ with env := upd σ.env t (.var cs') } | none => none
    | _ => none
  | .obj b off => match σ.obj b with
    | some cs => match splice cs off ds with | some cs' => some { σ with H := σ.H.set b (some cs') } | none => none
    | none => none
  | .imm _ => none

/-- A loaded value: one cell's, or a whole one's. -/
def ofCells (sz : Option Nat) (cs : List D) : Option D :=
  match sz with
  | some _ => some (.agg (cs.map D.copy))
  | none => match cs with | [d] => some d.copy | _ => none

def Lv.move : Lv → Nat → Slot
  | .var t off, n => .loc t (off + n)
  | .obj b off, n => .d (.ptr b (off + n))
  | .imm cs, n => .d (.imm (cs.drop n))

/-- Kinds of what is compared. -/
inductive EqK where
  | int | bool | str | ptr | ifc | fnc
  deriving Inhabited, DecidableEq
def eqK : EqK → D → D → Option Bool
  | .int, .int k a, .int k' b => if k = k' then some (a == b) else none
  | .bool, .bool a, .bool b => some (a == b)
  | .str, .str a, .str b => some (a == b)
  | .ptr, .nilp, .nilp => some true
  | .ptr, .nilp, .ptr _ _ | .ptr, .ptr _ _, .nilp | .ptr, .nilp, .imm _ | .ptr, .imm _, .nilp => some false
  | .ifc, .nili, .nili => some true
  | .ifc, .nili, .iface _ _ | .ifc, .iface _ _, .nili => some false
  | .fnc, .nilf, .nilf => some true
  | .fnc, .nilf, .fn _ _ | .fnc, .fn _ _, .nilf => some false
  | _, _, _ => none
/-- All cells are equal. -/
def deqs (k : EqK) : List D → List D → Option Bool
  | [], [] => some true
  | a :: as, b :: bs => match eqK k a b, deqs k as bs with | some x, some y => some (x && y) | _, _ => none
  | _, _ => none
def deq (k : EqK) (n : Nat) (a b : D) : Option Bool :=
  match n with
  | 0 => eqK k a b
  | n + 1 => match a, b with
    | .agg as, .agg bs => if as.length = n + 1 then deqs k as bs else none
    | _, _ => none

/-- Whole numbers. -/
def bits (k : IntKind) (f : BitVec k.bits → BitVec k.bits → BitVec k.bits) (a b : Int) : Int := k.wrap (f (BitVec.ofInt k.bits a) (BitVec.ofInt k.bits b)).toNat
def binInt (op : BinOp) (k : IntKind) (a b : Int) : Option D :=
  match op with
  | .add => some (.int k (k.wrap (a + b)))
  | .sub => some (.int k (k.wrap (a - b)))
  | .mul => some (.int k (k.wrap (a * b)))
  | .quo => if b = 0 then none else some (.int k (k.wrap (a.tdiv b)))
  | .rem => if b = 0 then none else some (.int k (a.tmod b))
  | .and => some (.int k (bits k (· &&& ·) a b))
  | .or => some (.int k (bits k (· ||| ·) a b))
  | .xor => some (.int k (bits k (· ^^^ ·) a b))
  | .andNot => some (.int k (bits k (fun x y => x &&& ~~~y) a b))
  | .eql => some (.bool (a == b))
  | .neq => some (.bool (a != b))
  | .lss => some (.bool (decide (a < b)))
  | .leq => some (.bool (decide (a ≤ b)))
  | .gtr => some (.bool (decide (a > b)))
  | .geq => some (.bool (decide (a ≥ b)))
  | _ => none
def shift (op : BinOp) (k : IntKind) (a b : Int) : Option D :=
  if b < 0 then none else
  match op with
  | .shl => some (.int k (k.wrap (a * 2 ^ (min b.toNat k.bits))))
  | .shr => some (.int k (a.fdiv (2 ^ (min b.toNat k.bits))))
  | _ => none
/-- Texts: smaller byte by byte. -/
def binStr (op : BinOp) (a b : List UInt8) : Option D :=
  match op with
  | .add => if a.length + b.length ≤ 140737488351232 then some (.str (a ++ b)) else none
  | .eql => some (.bool (a == b))
  | .neq => some (.bool !(a == b))
  | .lss => some (.bool (Op.bytesLess a b))
  | .leq => some (.bool (Op.bytesLess a b || a == b))
  | .gtr => some (.bool !(Op.bytesLess a b || a == b))
  | .geq => some (.bool !(Op.bytesLess a b))
  | _ => none
def bin (op : BinOp) (a b : D) : Option D :=
  match op with
  | .shl | .shr => match a, b with | .int k x, .int _ y => shift op k x y | _, _ => none
  | _ => match a, b with
    | .int k x, .int k' y => if k = k' then binInt op k x y else none
    | .str x, .str y => binStr op x y
    | _, _ => none
def un (op : UnOp) (a : D) : Option D :=
  match op, a with
  | .neg, .int k n => some (.int k (k.wrap (0 - n)))
  | .xor, .int k n => some (.int k (bits k (· ^^^ ·) (if k.signed then -1 else k.max) n))
  | .not, .bool b => some (.bool !b)
  | _, _ => none

/-- So many wholes of so many cells. -/
def chunks (sz : Nat) : Nat → List D → List D
  | 0, _ => []
  | n + 1, ds => .agg (ds.take sz) :: chunks sz n (ds.drop sz)
/-- The elements of a slice. -/
def St.elems (σ : St) (sz : Nat) : D → Option (List D)
  | .list xs | .own _ xs => some xs
  | .nils => some []
  | .ref b off len sz' => if sz' = sz then match σ.obj b with
    | some cs => match cut cs off (len * sz) with
      | some ds => if sz = 1 then some (ds.map D.copy) else some (chunks sz len (ds.map D.copy))
      | none => none
    | none => none
    else none
  | _ => none
def D.len? (str : Bool) : D → Option Nat
  | .list xs | .own _ xs => if str then none else some xs.length
  | .nils => if str then none else some 0
  | .ref _ _ n _ => if str then none else some n
  | .str s => if str then some s.length else none
  | _ => none

/-- Numbers of bytes: a text's bytes as a slice, and back. -/
def ofBytes (s : List UInt8) : List D := s.map fun b => .int .u8 (b.toNat : Int)
def toByte : D → Option UInt8
  | .int .u8 n => some (UInt8.ofNat n.toNat)
  | _ => none
def toBytes : List D → Option (List UInt8)
  | [] => some []
  | d :: ds => match toByte d, toBytes ds with | some b, some bs => some (b :: bs) | _, _ => none

inductive Conv where
  | int (k : IntKind)
  | bytes
  | str
  | same
  deriving Inhabited

/-- The operations. -/
inductive AOp where
  | mv (a : AO)
  | pick (c a b : AO)
  | box (a : AO)
  | boxH (a : AO)
  | alloc (z : List D)
  | allocH (z : List D)
  | build (z : List D) (parts : List (Nat × Nat × AO))
  | bsl (e sz : Nat) (parts : List AO)
  | bslH (sz : Nat) (parts : List AO)
  | ld (sz : Option Nat) (p : Nat)
  | ldx (p : Nat)
  | st (sz p : Nat) (a : AO)
  | nilc (n : Nat)
  | bin (op : BinOp) (a b : AO)
  | eqv (neq : Bool) (k : EqK) (n : Nat) (a b : AO)
  | isnil (neq : Bool) (a : AO)
  | un (op : UnOp) (a : AO)
  | conv (c : Conv) (a : AO)
  | mki (t : Nat) (a : AO)
  | mkf (f : Nat) (cs : List AO)
  | mks (e : Nat) (z : D) (bytes : Nat) (n : AO)
  | mksH (z : D) (bytes : Nat) (n : AO)
  | sls (a : AO) (lo hi : Option AO)
  | sll (sz : Nat) (a : AO) (lo hi : Option AO)
  | fa (p off : Nat)
  | fld (off : Nat) (sz : Option Nat) (a : AO)
  | iaa (len sz : Nat) (p : Nat) (i : AO)
  | ias (sz : Nat) (a : AO) (i : AO)
  | ixa (len : Nat) (sz : Option Nat) (a i : AO)
  | ixs (a i : AO)
  | ext (a : AO) (i : Nat)
  | len (str : Bool) (a : AO)
  | app (e sz bytes : Nat) (s : Nat) (a : AO)
  | appH (sz bytes : Nat) (s : Nat) (a : AO)
  | cpy (sz : Nat) (a b : AO)
  | minmax (mx : Bool) (as : List AO)
  | call (f : Nat) (as : List AO)
  | callv (g : AO) (as : List AO)
  | lenB (str : Bool) (a : AO)
  | ldv (sz : Option Nat) (p r off : Nat)
  | ldi (sz : Option Nat) (p : Nat)
  | stv (sz p r off : Nat) (a : AO)
  | ldr (p r off : Nat)
  | callQ (f : Nat) (as : List AO)
  | callvQ (g : AO) (as : List AO)
  | bad
  deriving Inhabited

structure AI where
  dst : Option Nat
  g : Option (Nat × Bool) := none
  frz : List (Nat × Nat) := []
  nl : List (Nat × Nat) := []
  op : AOp
  deriving Inhabited

inductive AC where
  | skip
  | reg (is : List AI)
  | bnd (str : Bool) (t : Nat)
  | seq (a b : AC)
  | cond (c : AO) (a b : AC)
  | block (id : Nat) (b : AC)
  | loop (b : AC)
  | scope (b : AC)
  | exit (id : Nat)
  | ret
  | bad
  deriving Inhabited

/-- What an operand that is handed on takes away. -/
def St.spend (σ : St) : AO → St
  | .x n => match σ.env n with | .d (.own _ xs) => { σ with env := upd σ.env n (.d (.list xs)) } | _ => σ
  | _ => σ
def St.spends (σ : St) : List AO → St
  | [] => σ
  | a :: as => (σ.spend a).spends as
/-- The value that an operand hands on. -/
def St.give (σ : St) : AO → Option D
  | .x n => match σ.env n with | .d d => some d | _ => none
  | .t n => match σ.env n with | .d d => some d.copy | _ => none
  | .k d => some d
def St.gives (σ : St) : List AO → Option (List D)
  | [] => some []
  | a :: as => match σ.give a, σ.gives as with | some d, some ds => some (d :: ds) | _, _ => none

def St.fillParts (σ : St) (z : List D) : List (Nat × Nat × AO) → Option (List D)
  | [] => some z
  | (off, sz, a) :: ps => match σ.val a with
    | some d => if d.cells.length = sz ∧ d.cells.all D.one then
        match splice z off (d.cells.map D.copy) with | some z' => σ.fillParts z' ps | none => none else none
    | none => none

def intOf? : D → Option Int
  | .int _ n => some n
  | _ => none

def bound? (σ : St) (dflt : Nat) : Option AO → Option Nat
  | none => some dflt
  | some a => match σ.val a with
    | some (.int _ n) => if 0 ≤ n then some n.toNat else none
    | _ => none

def ofElem (cs : List D) : D := match cs with | [d] => d | _ => .agg cs

def min2 (mx : Bool) : D → D → Option D
  | .int k a, .int k' b => if k = k' then some (.int k (if mx then (if b > a then b else a) else (if b < a then b else a))) else none
  | _, _ => none
def minmaxOf (mx : Bool) : List D → Option D
  | [] => none
  | d :: ds => ds.foldlM (min2 mx) d

/-- A variable whose cell hands its right on. -/
def dullV (off : Nat) : Slot → Slot
  | .var cs => match cut cs off 1 with
    | some [.own _ xs] => match splice cs off [.list xs] with
      | some cs' => .var cs'
      | none => .var cs
    | _ => .var cs
  | s => s

/-- One operation that calls nothing. -/
def stepF (op : AOp) (dst : Option Nat) (σ : St) : Option St :=
  match op with
  | .mv a => match σ.give a with | some d => some ((σ.spend a).put dst (.d d)) | none => none
  | .pick c a b => match σ.val c, σ.val a, σ.val b with
    | some (.bool c), some a, some b => some (σ.put dst (.d (if c then a else b)))
    | some (.bool true), some a, none => some (σ.put dst (.d a))
    | some (.bool false), none, some b => some (σ.put dst (.d b))
    | _, _, _ => none
  | .box a => match dst, σ.val a with
    | some n, some d => if d.cells.all D.one then some { σ with env := updv σ.env n (d.cells.map D.copy) } else none
    | _, _ => none
  | .boxH a => match σ.val a with
    | some d => if d.cells.all D.one then some ({ σ with H := σ.H ++ [some (d.cells.map D.copy)] }.put dst (.d (.ptr σ.H.length 0))) else none
    | none => none
  | .alloc z => match dst with
    | some n => some { σ with env := updv σ.env n z }
    | none => none
  | .allocH z => some ({ σ with H := σ.H ++ [some z] }.put dst (.d (.ptr σ.H.length 0)))
  | .build z parts => match σ.fillParts z parts with
    | some cs => some (σ.put dst (.d (.agg cs)))
    | none => none
  | .bsl e sz parts => match σ.vals parts with
    | some ds => if ds.all (D.elem sz) then some (σ.put dst (.d (.own e ds))) else none
    | none => none
  | .bslH sz parts => match σ.vals parts with
    | some ds => if ds.all (fun d => d.cells.length == sz && d.cells.all D.one) then some ({ σ with H := σ.H ++ [some (ds.flatMap D.cells)] }.put dst (.d (.ref σ.H.length 0 ds.length sz))) else none
    | none => none
  | .ld sz p => match σ.lv p with
    | some l => match σ.rd l (sz.getD 1) with
      | some cs => match ofCells sz cs with | some d => some (σ.put dst (.d d)) | none => none
      | none => none
    | none => none
  | .ldx p => match σ.lv p with
    | some l => match σ.rd l 1 with
      | some [.own e xs] => match σ.wr l [.list xs] with | some σ' => some (σ'.put dst (.d (.own e xs))) | none => none
      | some [d] => some (σ.put dst (.d d))
      | _ => none
    | none => none
  | .st sz p a => match σ.lv p, σ.give a with
    | some l, some d => if d.cells.length = sz && d.cells.all D.one then (σ.spend a).wr l d.cells else none
    | _, _ => none
  | .nilc n => match σ.env n with
    | .d .nilp | .d .nili | .d .nilf => none
    | .d d => some (σ.put dst (.d d.copy))
    | .var _ => some (σ.put dst (.loc n 0))
    | .loc s o => some (σ.put dst (.loc s o))
    | .und => none
    | .no => none
  | .bin o a b => match σ.val a, σ.val b with
    | some x, some y => match bin o x y with | some d => some (σ.put dst (.d d)) | none => none
    | _, _ => none
  | .eqv neq k n a b => match σ.val a, σ.val b with
    | some x, some y => match deq k n x y with | some r => some (σ.put dst (.d (.bool (if neq then !r else r)))) | none => none
    | _, _ => none
  | .isnil neq a => match σ.val a with
    | some .nils => some (σ.put dst (.d (.bool !neq)))
    | some (.ref _ _ _ _) => some (σ.put dst (.d (.bool neq)))
    | some (.list (_ :: _)) => some (σ.put dst (.d (.bool neq)))
    | _ => none
  | .un o a => match σ.val a with
    | some x => match un o x with | some d => some (σ.put dst (.d d)) | none => none
    | none => none
  | .conv c a => match c, σ.val a with
    | .int k, some (.int _ n) => some (σ.put dst (.d (.int k (k.wrap n))))
    | .bytes, some (.str s) => some (σ.put dst (.d (.list (ofBytes s))))
    | .str, some d => match σ.elems 1 d with
      | some xs => match toBytes xs with | some s => some (σ.put dst (.d (.str s))) | none => none
      | none => none
    | .same, some (.str s) => some (σ.put dst (.d (.str s)))
    | _, _ => none
  | .mki t a => match σ.val a with | some d => some (σ.put dst (.d (.iface t d))) | none => none
  | .mkf f cs => match σ.vals cs with | some ds => some (σ.put dst (.d (.fn f ds))) | none => none
  | .mks e z bytes n => match σ.val n with
    | some (.int .i64 n) => if 0 ≤ n ∧ n * bytes ≤ 140737488351232 ∧ n ≤ 140737488351232 then some (σ.put dst (.d (.own e (List.replicate n.toNat z)))) else none
    | _ => none
  | .mksH z bytes n => match σ.val n with
    | some (.int .i64 n) => if 0 ≤ n ∧ n * bytes ≤ 140737488351232 ∧ n ≤ 140737488351232 then
        some ({ σ with H := σ.H ++ [some ((List.replicate n.toNat z.cells).flatten)] }.put dst (.d (.ref σ.H.length 0 n.toNat z.cells.length))) else none
    | _ => none
  | .sls a lo hi => match σ.val a with
    | some (.str s) => match bound? σ 0 lo, bound? σ s.length hi with
      | some l, some h => if l ≤ h ∧ h ≤ s.length then some (σ.put dst (.d (.str ((s.drop l).take (h - l))))) else none
      | _, _ => none
    | _ => none
  | .sll sz a lo hi => match σ.val a with
    | some (.list xs) => match bound? σ 0 lo, bound? σ xs.length hi with
      | some l, some h => if l ≤ h ∧ h ≤ xs.length ∧ (xs.all (D.elem sz)) then some (σ.put dst (.d (.list ((xs.drop l).take (h - l))))) else none
      | _, _ => none
    | some .nils => match bound? σ 0 lo, bound? σ 0 hi with
      | some 0, some 0 => some (σ.put dst (.d (.list [])))
      | _, _ => none
    | some (.ref b off len sz') => match bound? σ 0 lo, bound? σ len hi with
      | some l, some h => if l < h ∧ h ≤ len ∧ sz' = sz then some (σ.put dst (.d (.ref b (off + l * sz) (h - l) sz)))
          else if l = h ∧ h ≤ len then some (σ.put dst (.d (.list []))) else none
      | _, _ => none
    | _ => none
  | .fa p off => match σ.lv p with | some l => some (σ.put dst (l.move off)) | none => none
  | .fld off sz a => match σ.val a with
    | some (.agg cs) => match cut cs off (sz.getD 1) with
      | some ds => match ofCells sz ds with | some d => some (σ.put dst (.d d)) | none => none
      | none => none
    | _ => none
  | .iaa len sz p i => match σ.lv p, σ.val i with
    | some l, some (.int _ n) => if 0 ≤ n ∧ n < len then some (σ.put dst (l.move (n.toNat * sz))) else none
    | _, _ => none
  | .ias sz a i => match σ.val a, σ.val i with
    | some (.list xs), some (.int _ n) => if 0 ≤ n then match xs[n.toNat]? with
        | some x => if x.cells.length = sz then some (σ.put dst (.d (.imm x.cells))) else none
        | none => none
      else none
    | some (.ref b off len sz'), some (.int _ n) => if 0 ≤ n ∧ n < len ∧ sz' = sz then some (σ.put dst (.d (.ptr b (off + n.toNat * sz)))) else none
    | _, _ => none
  | .ixa len sz a i => match σ.val a, σ.val i with
    | some (.agg cs), some (.int _ n) => if 0 ≤ n ∧ n < len then match cut cs (n.toNat * (sz.getD 1)) (sz.getD 1) with
        | some ds => match ofCells sz ds with | some d => some (σ.put dst (.d d)) | none => none
        | none => none
      else none
    | _, _ => none
  | .ixs a i => match σ.val a, σ.val i with
    | some (.str s), some (.int _ n) => if 0 ≤ n then match s[n.toNat]? with
        | some b => some (σ.put dst (.d (.int .u8 (b.toNat : Int))))
        | none => none
      else none
    | _, _ => none
  | .ext a i => match σ.val a with
    | some (.tup ds) => match ds[i]? with | some d => some (σ.put dst (.d d)) | none => none
    | _ => none
  | .app e sz bytes s a => match σ.env s with
    | .d (.own e' xs) => if e' = e then match σ.val a with
        | some y => match σ.elems sz y with
          | some ys => if (xs.length + ys.length) * bytes ≤ 140737488351232 ∧ xs.length + ys.length ≤ 140737488351232 ∧ (ys.all (D.elem sz)) then
              some ({ σ with env := upd σ.env s (.d (.list xs)) }.put dst (.d (.own e (xs ++ ys)))) else none
          | none => none
        | none => none
      else none
    | _ => none
  | .cpy sz a b => match σ.val a, σ.val b with
    | some (.ref b' off len sz'), some y => if sz' = sz then match σ.elems sz y with
      | some ys => match σ.wr (.obj b' off) ((ys.take len).flatMap D.cells) with
        | some σ' => if ys.all (D.elem sz) then some (σ'.put dst (.d (.int .i64 (min ys.length len : Nat)))) else none
        | none => none
      | none => none
      else none
    | _, _ => none
  | .minmax mx as => match σ.vals as with
    | some ds => match minmaxOf mx ds with | some d => some (σ.put dst (.d d)) | none => none
    | none => none
  | .stv sz p r off a => match σ.lv p, σ.give a with
    | some (.var t o), some d => if t = r ∧ o = off ∧ d.cells.length = sz ∧ d.cells.all D.one then match σ.env r with
        | .var cs => match splice cs off d.cells with
          | some cs' => some { σ with env := upd σ.env r (.var cs') }
          | none => none
        | _ => none
      else none
    | _, _ => none
  | .ldi sz p => match σ.lv p with
    | some (.var _ _) => none
    | some l => match σ.rd l (sz.getD 1) with
      | some cs => match ofCells sz cs with | some d => some (σ.put dst (.d d)) | none => none
      | none => none
    | none => none
  | .ldv sz p r off => match σ.lv p with
    | some (.var t o) => if t = r ∧ o = off then match σ.env r with
        | .var cs => match cut cs off (sz.getD 1) with
          | some ds => match ofCells sz ds with | some d => some (σ.put dst (.d d)) | none => none
          | none => none
        | _ => none
      else none
    | _ => none
  | .ldr p r off => match σ.lv p with
    | some (.var t o) => if t = r ∧ o = off then match σ.env r with
        | .var cs => match cut cs off 1 with
          | some [d] => some ({ σ with env := upd σ.env r (dullV off (.var cs)) }.put dst (.d d))
          | _ => none
        | _ => none
      else none
    | _ => none
  | .lenB s a => match σ.val a with
    | some d => match d.len? s with
      | some n => if n ≤ 140737488351232 then some (σ.put dst (.d (.int .i64 (n : Int)))) else none
      | none => none
    | none => none
  | _ => none

/-- Contracts: a function's number, arguments, objects ahead; result, objects behind. -/
abbrev Con := Nat → List D → List (Option (List D)) → D → List (Option (List D)) → Prop

def opP (C : Con) (op : AOp) (dst : Option Nat) (K : St → Prop) (σ : St) : Prop :=
  match op with
  | .call f as => match σ.gives as with
    | some ds => ∃ r H', C f ds σ.H r H' ∧ K ({ σ.spends as with H := H' }.put dst (.d r))
    | none => False
  | .callv g as => match σ.val g, σ.gives as with
    | some (.fn f cs), some ds => ∃ r H', C f (ds ++ cs) σ.H r H' ∧ K ({ σ.spends as with H := H' }.put dst (.d r))
    | _, _ => False
  | .callQ f as => match σ.gives as with
    | some ds => ∃ r, C f ds σ.H r σ.H ∧ K (σ.put dst (.d r))
    | none => False
  | .callvQ g as => match σ.val g, σ.gives as with
    | some (.fn f cs), some ds => ∃ r, C f (ds ++ cs) σ.H r σ.H ∧ K (σ.put dst (.d r))
    | _, _ => False
  | .len s a => match σ.val a with
    | some d => match d.len? s with
      | some n => n ≤ 140737488351232 → K (σ.put dst (.d (.int .i64 (n : Int))))
      | none => False
    | none => False
  | op => match stepF op dst σ with
    | some σ' => K σ'
    | none => False

/-- Slices of objects that are written no more become lists. -/
def St.freeze (σ : St) : List (Nat × Nat) → Option St
  | [] => some σ
  | (n, sz) :: l => match σ.env n with
    | .d (.ref b off len sz') => if sz' = sz then match σ.elems sz (.ref b off len sz) with
      | some xs => if xs.all (D.elem sz) then St.freeze { env := upd σ.env n (.d (.list xs)), H := σ.H.set b none } l else none
      | none => none
      else none
    | _ => none

/-- Something, and no place in a variable. -/
def notLoc (a : Nat) : Slot → Bool
  | .loc t _ => t != a
  | .und => false
  | _ => true
def away : List (Nat × Nat) → St → Prop → Prop
  | [], _, p => p
  | (n, a) :: l, σ, p => notLoc a (σ.env n) = true ∧ away l σ p

def wpo (C : Con) : List AI → (St → Prop) → St → Prop
  | [], Q, σ => Q σ
  | i :: is, Q, σ => away i.nl σ (match i.g with
    | none => match σ.freeze i.frz with
      | some σ => opP C i.op i.dst (wpo C is Q) σ
      | none => False
    | some (t, b) => match σ.env t with
      | .d (.bool b') => if b' = b then opP C i.op i.dst (wpo C is Q) σ else wpo C is Q (σ.put i.dst .no)
      | .no => wpo C is Q (σ.put i.dst .no)
      | _ => False)

inductive Ex where
  | normal
  | exit (id : Nat)
  | ret
  deriving Inhabited, DecidableEq

def Ex.then (K : St → Prop) (Q : Ex → St → Prop) : Ex → St → Prop
  | .normal, σ => K σ
  | e, σ => Q e σ
def Ex.inBlock (id : Nat) (Q : Ex → St → Prop) : Ex → St → Prop
  | .exit i, σ => if i = id then Q .normal σ else Q (.exit i) σ
  | e, σ => Q e σ

def loopN (body : (Ex → St → Prop) → St → Prop) (Q : Ex → St → Prop) : Nat → St → Prop
  | 0, _ => False
  | n + 1, σ => body (Ex.then (loopN body Q n) Q) σ

def wpc (C : Con) : AC → (Ex → St → Prop) → St → Prop
  | .skip, Q, σ => Q .normal σ
  | .reg is, Q, σ => wpo C is (Q .normal) σ
  | .bnd str t, Q, σ => match σ.val (.t t) with
    | some d => match d.len? str with
      | some n => n ≤ 140737488351232 → Q .normal σ
      | none => Q .normal σ
    | none => Q .normal σ
  | .seq a b, Q, σ => wpc C a (Ex.then (wpc C b Q) Q) σ
  | .cond c a b, Q, σ => match σ.val c with
    | some (.bool t) => if t = true then wpc C a Q σ else wpc C b Q σ
    | _ => False
  | .block id b, Q, σ => wpc C b (Ex.inBlock id Q) σ
  | .loop b, Q, σ => ∃ n, loopN (wpc C b) Q n σ
  | .scope b, Q, σ => wpc C b Q σ
  | .exit id, Q, σ => Q (.exit id) σ
  | .ret, Q, σ => Q .ret σ
  | .bad, _, _ => False

end Go.Am
