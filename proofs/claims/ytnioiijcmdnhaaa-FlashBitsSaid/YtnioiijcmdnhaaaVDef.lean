/-
  An evaluator over plain values for the code of a function ('V'): slices are lists, memory of the call's own is kept by names.
  Definitions only; no function of the program is named here. What it gives is shown to hold of the model in the texts that follow.
-/
import Derived.Test.YtnioiijcmdnhaaaLaws
import Derived.Test.YtnioiijcmdnhaaaTree
set_option linter.all false
namespace Go.Proofs.Ytnioiijcmdnhaaa.V
open Go

/-- An element of a slice of structs. -/
structure Rec where
  a : Int
  b : Int
  c : Int
  d : Int
  f : Bool
  s : List Int
instance : Inhabited Rec := ⟨⟨0, 0, 0, 0, false, []⟩⟩

inductive AV where
  | top | nil | undef
  | bool (b : Bool) | int (k : IntKind) (n : Int) | str (l : List Int)
  | ints (full : Bool) (k : IntKind) (l : List Int)
  | rs (full : Bool) (T : Nat) (l : List Rec)
  | gpi (k : IntKind) (n : Int)
  | gpr (T : Nat) (r : Rec) (j : Nat)
  | ownf (id : Nat)
  | own (id off len : Nat)
  | ptr (id i j : Nat)
  | agg (l : List AV)
  | tup (l : List AV)
  | lini (t : TypeId) (k : IntKind) (l : List Int)
  | linr (t : TypeId) (T : Nat) (l : List Rec)
  | box (t : TypeId) (l : List AV)
  | fn (f : Nat) (c : Option (List Int))
instance : Inhabited AV := ⟨.top⟩

/-! lists whose form is known -/
def cnt : List AV → Nat
  | [] => 0
  | _ :: l => cnt l + 1
def nth : List AV → Nat → Option AV
  | [], _ => none
  | x :: _, 0 => some x
  | _ :: l, n + 1 => nth l n
def setV : List AV → Nat → AV → List AV
  | [], _, _ => []
  | _ :: l, 0, y => y :: l
  | x :: l, n + 1, y => x :: setV l n y
def dropV : List AV → Nat → List AV
  | l, 0 => l
  | [], _ => []
  | _ :: l, n + 1 => dropV l n
def takeV : List AV → Nat → List AV
  | _, 0 => []
  | [], _ => []
  | x :: l, n + 1 => x :: takeV l n
def br (c : Bool) (x y : Prop) : Prop := match c with | true => x | false => y
def chk (c : Bool) (x : Prop) : Prop := br c x False

def kbeq : IntKind → IntKind → Bool
  | .i8, .i8 | .i16, .i16 | .i32, .i32 | .i64, .i64 | .u8, .u8 | .u16, .u16 | .u32, .u32 | .u64, .u64 => true
  | _, _ => false

abbrev Env := List (Nat × AV)
def get : Env → Nat → Option AV
  | [], _ => none
  | (k, v) :: l, n => match Nat.beq k n with | true => some v | false => get l n
def put : Env → Nat → AV → Env
  | [], n, x => [(n, x)]
  | (k, v) :: l, n, x => match Nat.beq k n with
    | true => (n, x) :: l
    | false => match Nat.ble k n with | true => (k, v) :: put l n x | false => (n, x) :: (k, v) :: l
def del : Env → Nat → Env
  | [], _ => []
  | (k, v) :: l, n => match Nat.beq k n with | true => del l n | false => (k, v) :: del l n
def mem (n : Nat) : List Nat → Bool
  | [] => false
  | k :: l => match Nat.beq k n with | true => true | false => mem n l
def only (ids : List Nat) : Env → Env
  | [] => []
  | (k, v) :: l => match mem k ids with | true => (k, v) :: only ids l | false => only ids l
def less (ids : List Nat) : Env → Env
  | [] => []
  | (k, v) :: l => match mem k ids with | true => less ids l | false => (k, v) :: less ids l

/-- A row of which only the length is known. -/
def shadeE : AV → Option AV
  | .lini _ k l => some (.ints false k l)
  | .linr _ T l => some (.rs false T l)
  | _ => none
/-- Of the rows 'ids' only the length is known; other memory of that name is not known at all. -/
def shadeL (l acc : Env) : List Nat → Env
  | [] => acc
  | id :: ids => match get l id with
    | some e => (match shadeE e with | some e' => shadeL l (put acc id e') ids | none => shadeL l acc ids)
    | none => shadeL l acc ids
def shade (ids : List Nat) (l : Env) : Env := shadeL l (less ids l) ids
/-- Is what it holds known? -/
def real : AV → Bool
  | .ints _ _ _ => false
  | .rs _ _ _ => false
  | _ => true

structure AS where
  t : Env
  h : Env

/-- The kinds of an element of a slice. -/
inductive EK where
  | i (k : IntKind)
  | r (T : Nat)
  | c
inductive TI where
  | int (k : IntKind)
  | bool
  | str
  | ptr
  | sl (e : TypeId) (ek : EK)
  | st (offs : List (Nat × Nat)) (zero : List AV)
  | ar (n : Nat) (zero : List AV)
abbrev TEnv := List (Nat × TI)
def tget : TEnv → Nat → Option TI
  | [], _ => none
  | (k, v) :: l, n => match Nat.beq k n with | true => some v | false => tget l n
def TI.size : TI → Nat
  | .st _ z => cnt z
  | .ar _ z => cnt z
  | _ => 1
def TI.agg : TI → Bool
  | .st _ _ => true
  | .ar _ _ => true
  | _ => false
/-- The zero value. -/
def TI.zero : TI → Option AV
  | .int k => some (.int k 0)
  | .bool => some (.bool false)
  | .str => some (.str [])
  | .sl _ _ => some .nil
  | .st _ z => some (.agg z)
  | .ar _ z => some (.agg z)
  | .ptr => none

/-- A one-cell value. -/
def isCell : AV → Bool
  | .agg _ => false
  | _ => true
def allCell : List AV → Bool
  | [] => true
  | x :: l => match isCell x with | true => allCell l | false => false
def flat : AV → Bool
  | .agg l => allCell l
  | .tup _ => false
  | .undef => false
  | _ => true
def cellsOf : AV → List AV
  | .agg l => l
  | x => [x]
def enc (T : Nat) (r : Rec) : AV :=
  match T with
  | 0 => .agg [.int .u32 r.a, .bool r.f, .int .i64 r.b, .int .i64 r.c, .int .i64 r.d, .ints false .u8 r.s]
  | _ => .ints false .u8 r.s
def esz : Nat → Nat
  | 0 => 6
  | _ => 1
def bytesOf : AV → Option (List Int)
  | .nil => some []
  | .ints _ k l => match kbeq k .u8 with | true => some l | false => none
  | _ => none
def dec (T : Nat) (x : AV) : Option Rec :=
  match T with
  | 0 => match x with
    | .agg [.int .u32 a, .bool f, .int .i64 b, .int .i64 c, .int .i64 d, y] => match bytesOf y with | some s => some ⟨a, b, c, d, f, s⟩ | none => none
    | _ => none
  | _ => match bytesOf x with | some s => some ⟨0, 0, 0, 0, false, s⟩ | none => none

/-! ### names of memory of the call's own -/
mutual
def killAV (id : Nat) : AV → AV
  | .ownf i => match Nat.beq i id with | true => .top | false => .ownf i
  | .own i o l => match Nat.beq i id with | true => .top | false => .own i o l
  | .ptr i a b => match Nat.beq i id with | true => .top | false => .ptr i a b
  | .agg l => .agg (killL id l)
  | .tup l => .tup (killL id l)
  | .box t l => .box t (killL id l)
  | x => x
def killL (id : Nat) : List AV → List AV
  | [] => []
  | x :: l => killAV id x :: killL id l
end
mutual
/-- The references to 'id' become those to 'n'. -/
def renAV (id n : Nat) : AV → AV
  | .ownf i => match Nat.beq i id with | true => .ownf n | false => .ownf i
  | .own i o l => match Nat.beq i id with | true => .own n o l | false => .own i o l
  | .ptr i a b => match Nat.beq i id with | true => .ptr n a b | false => .ptr i a b
  | .agg l => .agg (renL id n l)
  | .tup l => .tup (renL id n l)
  | .box t l => .box t (renL id n l)
  | x => x
def renL (id n : Nat) : List AV → List AV
  | [] => []
  | x :: l => renAV id n x :: renL id n l
end
/-- What a reference reads as, once its memory is no longer written. -/
def ghostf : AV → AV
  | .lini _ k l => .ints false k l
  | .linr _ T l => .rs false T l
  | _ => .top
def ghost (off len : Nat) : AV → AV
  | .lini _ k l => .ints false k ((l.drop off).take len)
  | .linr _ T l => .rs false T ((l.drop off).take len)
  | _ => .top
mutual
def frzAV (id : Nat) (e : AV) : AV → AV
  | .ownf i => match Nat.beq i id with | true => ghostf e | false => .ownf i
  | .own i o l => match Nat.beq i id with | true => ghost o l e | false => .own i o l
  | .ptr i a b => match Nat.beq i id with | true => .top | false => .ptr i a b
  | .agg l => .agg (frzL id e l)
  | .tup l => .tup (frzL id e l)
  | .box t l => .box t (frzL id e l)
  | x => x
def frzL (id : Nat) (e : AV) : List AV → List AV
  | [] => []
  | x :: l => frzAV id e x :: frzL id e l
end
mutual
def refAV : AV → Option Nat
  | .ownf i => some i
  | .own i _ _ => some i
  | .ptr i _ _ => some i
  | .agg l => refL l
  | .tup l => refL l
  | .box _ l => refL l
  | _ => none
def refL : List AV → Option Nat
  | [] => none
  | x :: l => match refAV x with | some i => some i | none => refL l
end
def emap (f : AV → AV) : Env → Env
  | [] => []
  | (k, v) :: l => (k, f v) :: emap f l
def AS.kill (s : AS) (id : Nat) : AS := ⟨emap (killAV id) s.t, emap (killAV id) (del s.h id)⟩
def AS.ren (s : AS) (id n : Nat) : AS := ⟨emap (renAV id n) s.t, emap (renAV id n) s.h⟩
/-- Memory 'id' is no longer written: all that names it becomes what it reads as. -/
def AS.frz (s : AS) (id : Nat) (e : AV) : AS := ⟨emap (frzAV id e) s.t, emap (frzAV id e) (del s.h id)⟩
def AS.tput (s : AS) (d : Nat) (x : AV) : AS := ⟨put s.t d x, s.h⟩
def AS.hput (s : AS) (d : Nat) (x : AV) : AS := ⟨s.t, put s.h d x⟩
def AS.dst (s : AS) (d : Option Tmp) (x : AV) : AS := match d with | some d => s.tput d x | none => s
/-- New memory under the name d. -/
def AS.new (s : AS) (d : Nat) (e : AV) (x : AV) : AS := ((s.kill d).hput d e).tput d x

/-- Until no name is left in 'x'. -/
def plain (s : AS) (x : AV) (k : AS → AV → Prop) : Nat → Prop
  | 0 => False
  | n + 1 => match refAV x with
    | none => k s x
    | some id => match get s.h id with
      | some (.lini t kk l) => plain (s.frz id (.lini t kk l)) (frzAV id (.lini t kk l) x) k n
      | some (.linr t T l) => plain (s.frz id (.linr t T l)) (frzAV id (.linr t T l) x) k n
      | _ => False

inductive Shp where
  | s
  | i (k : IntKind)
  | r (T : Nat)
  | a (l : List Shp)
  | li (t : TypeId) (k : IntKind)
  | lr (t : TypeId) (T : Nat)
  | p
  | f
mutual
/-- The form that a value has between functions. -/
def canon : Shp → AV → Option AV
  | .s, .bool b => some (.bool b)
  | .s, .int k n => some (.int k n)
  | .s, .str l => some (.str l)
  | .i k, .nil => some (.ints false k [])
  | .i k, .ints _ k' l => match kbeq k k' with | true => some (.ints false k l) | false => none
  | .r T, .nil => some (.rs false T [])
  | .r T, .rs _ T' l => match Nat.beq T T' with | true => some (.rs false T l) | false => none
  | .a ss, .agg l => match canonL ss l with | some l' => some (.agg l') | none => none
  | .p, .top => some .top
  | .f, .fn g c => some (.fn g c)
  | _, _ => none
def canonL : List Shp → List AV → Option (List AV)
  | [], [] => some []
  | s :: ss, x :: l => match canon s x with
    | some y => match canonL ss l with | some l' => some (y :: l') | none => none
    | none => none
  | _, _ => none
end

def inK (k : IntKind) (n : Int) : Bool := decide (k.min ≤ n) && decide (n ≤ k.max)
def cav : Value → Option AV
  | .bool b => some (.bool b)
  | .int k n => match inK k n with | true => some (.int k n) | false => none
  | .slice none 0 0 => some .nil
  | .pointer none => some .top
  | .string s => some (.str (s.data.toList.map fun b => (b.toNat : Int)))
  | _ => none
def aval (s : AS) : Operand → Option AV
  | .tmp t => get s.t t
  | .const v => cav v
  | .func f => some (.fn f none)
  | _ => none
def avalL (s : AS) : List Operand → Option (List AV)
  | [] => some []
  | x :: l => match aval s x with
    | some y => match avalL s l with | some r => some (y :: r) | none => none
    | none => none

/-! ### what a slice holds -/
def listI (s : AS) (k : IntKind) : AV → Option (List Int)
  | .nil => some []
  | .ints _ k' l => match kbeq k k' with | true => some l | false => none
  | .ownf id => match get s.h id with
    | some (.lini _ k' l) => match kbeq k k' with | true => some l | false => none
    | _ => none
  | .own id off len => match get s.h id with
    | some (.lini _ k' l) => match kbeq k k' with | true => some ((l.drop off).take len) | false => none
    | _ => none
  | _ => none
def listR (s : AS) (T : Nat) : AV → Option (List Rec)
  | .nil => some []
  | .rs _ T' l => match Nat.beq T T' with | true => some l | false => none
  | .ownf id => match get s.h id with
    | some (.linr _ T' l) => match Nat.beq T T' with | true => some l | false => none
    | _ => none
  | .own id off len => match get s.h id with
    | some (.linr _ T' l) => match Nat.beq T T' with | true => some ((l.drop off).take len) | false => none
    | _ => none
  | _ => none
def entLen : AV → Option Nat
  | .lini _ _ l => some l.length
  | .linr _ _ l => some l.length
  | .box _ l => some (cnt l)
  | .ints _ _ l => some l.length
  | .rs _ _ l => some l.length
  | _ => none
def lenOf (s : AS) : AV → Option Nat
  | .nil => some 0
  | .ints _ _ l => some l.length
  | .rs _ _ l => some l.length
  | .ownf id => match get s.h id with | some e => entLen e | none => none
  | .own id _ len => match get s.h id with | some _ => some len | none => none
  | _ => none

/-! ### operations that leave memory as it is -/
section
def imin (x y : Int) : Int := if y < x then y else x
def imax (x y : Int) : Int := if y > x then y else x
def iand (k : IntKind) (x y : Int) : Int := k.wrap (BitVec.ofInt k.bits x &&& BitVec.ofInt k.bits y).toNat
def ior (k : IntKind) (x y : Int) : Int := k.wrap (BitVec.ofInt k.bits x ||| BitVec.ofInt k.bits y).toNat
def ixor (k : IntKind) (x y : Int) : Int := k.wrap (BitVec.ofInt k.bits x ^^^ BitVec.ofInt k.bits y).toNat
def iandn (k : IntKind) (x y : Int) : Int := k.wrap (BitVec.ofInt k.bits x &&& ~~~BitVec.ofInt k.bits y).toNat
def bitsOp (op : BinOp) (k : IntKind) (x y : Int) : Option Int :=
  match op with
  | .and => some (iand k x y)
  | .or => some (ior k x y)
  | .xor => some (ixor k x y)
  | .andNot => some (iandn k x y)
  | _ => none
def shl (k : IntKind) (x y : Int) : Int := k.wrap (x * 2 ^ min y.toNat k.bits)
def shr (k : IntKind) (x y : Int) : Int := x.fdiv (2 ^ min y.toNat k.bits)
def strEq (x y : List Int) : Bool := x == y
def bin (Γ : TEnv) (t : TypeId) (op : BinOp) (x y : AV) (k : AV → Prop) : Prop :=
  match x, y with
  | .int kx a, .int ky b =>
    match op with
    | .shl => chk (decide (0 ≤ b)) (k (.int kx (shl kx a b)))
    | .shr => chk (decide (0 ≤ b)) (k (.int kx (shr kx a b)))
    | _ => match kbeq kx ky with
      | false => False
      | true => match op with
        | .add => k (.int kx (kx.wrap (a + b)))
        | .sub => k (.int kx (kx.wrap (a - b)))
        | .mul => k (.int kx (kx.wrap (a * b)))
        | .quo => chk (!(b == 0)) (k (.int kx (kx.wrap (a.tdiv b))))
        | .rem => chk (!(b == 0)) (k (.int kx (a.tmod b)))
        | .eql => k (.bool (a == b))
        | .neq => k (.bool (a != b))
        | .lss => k (.bool (decide (a < b)))
        | .leq => k (.bool (decide (a ≤ b)))
        | .gtr => k (.bool (decide (a > b)))
        | .geq => k (.bool (decide (a ≥ b)))
        | _ => match bitsOp op kx a b with | some n => k (.int kx n) | none => False
  | .bool a, .bool b => match tget Γ t with
    | some .bool => match op with
      | .eql => k (.bool (a == b))
      | .neq => k (.bool (!(a == b)))
      | _ => False
    | _ => False
  | .ints _ _ l, .nil => match tget Γ t, op with
    | some (.sl _ _), .eql => ∀ b : Bool, (b = true → l = []) → k (.bool b)
    | _, _ => False
  | .str a, .str b => match op with
    | .eql => k (.bool (strEq a b))
    | .neq => k (.bool (!strEq a b))
    | _ => False
  | _, _ => False
def un (op : UnOp) (x : AV) (k : AV → Prop) : Prop :=
  match op, x with
  | .not, .bool b => k (.bool (!b))
  | .neg, .int kx a => k (.int kx (kx.wrap (0 - a)))
  | _, _ => False
def conv (Γ : TEnv) (s : AS) (src dst : TypeId) (x : AV) (k : AV → Prop) : Prop :=
  match tget Γ src, tget Γ dst with
  | some (.int _), some (.int kd) => match x with
    | .int _ n => k (.int kd (kd.wrap n))
    | _ => False
  | some (.sl _ (.i .u8)), some .str => match listI s .u8 x with | some l => k (.str l) | none => False
  | _, _ => False
def loadOf (ti : TI) (cs : List AV) (j : Nat) (k : AV → Prop) : Prop :=
  match ti.agg with
  | true => match Nat.ble (j + ti.size) (cnt cs) with | true => k (.agg (takeV (dropV cs j) ti.size)) | false => False
  | false => match nth cs j with | some x => (match isCell x with | true => k x | false => False) | none => False
def load (Γ : TEnv) (s : AS) (t : TypeId) (a : AV) (k : AV → Prop) : Prop :=
  match tget Γ t with
  | none => False
  | some ti => match a with
    | .gpi kk n => match ti.agg with | false => k (.int kk n) | true => False
    | .gpr T r j => loadOf ti (cellsOf (enc T r)) j k
    | .ptr id i j => match get s.h id with
      | some (.box _ l) => loadOf ti l (i + j) k
      | some (.lini _ kk l) => match Nat.beq j 0, ti.agg with
        | true, false => chk (decide (i < l.length)) (k (.int kk (l.getD i 0)))
        | _, _ => False
      | some (.linr _ T l) => chk (decide (i < l.length)) (loadOf ti (cellsOf (enc T (l.getD i default))) j k)
      | _ => False
    | _ => False
def fld (Γ : TEnv) (t : TypeId) (a : AV) (f : Nat) (k : AV → Prop) : Prop :=
  match tget Γ t with
  | some (.st offs _) => match offs[f]? with
    | some (off, _) => match a with
      | .gpr T r j => k (.gpr T r (j + off))
      | .ptr id i j => k (.ptr id i (j + off))
      | _ => False
    | none => False
  | _ => False
def entEs : AV → Nat
  | .linr _ T _ => esz T
  | .rs _ T _ => esz T
  | _ => 1
def ekEs : EK → Nat
  | .r T => esz T
  | _ => 1
def inB (i : Int) (n : Nat) : Bool := decide (0 ≤ i) && decide (i < (n : Int))
def idx (Γ : TEnv) (s : AS) (t : TypeId) (x i : AV) (k : AV → Prop) : Prop :=
  match tget Γ t, i with
  | some (.sl _ ek), .int _ i => match x with
    | .ints _ kk l => match ek with
      | .i _ => chk (inB i l.length) (k (.gpi kk (l.getD i.toNat 0)))
      | _ => False
    | .rs _ T l => match ek with
      | .r T' => match Nat.beq T T' with
        | true => chk (inB i l.length) (k (.gpr T (l.getD i.toNat default) 0))
        | false => False
      | _ => False
    | .ownf id => match get s.h id with
      | some e => match entLen e with
        | some n => match Nat.beq (entEs e) (ekEs ek) with
          | true => chk (inB i n) (k (.ptr id i.toNat 0))
          | false => False
        | none => False
      | none => False
    | .own id off len => match get s.h id with
      | some e => match Nat.beq (entEs e) (ekEs ek) with
        | true => chk (inB i len) (k (.ptr id (off + i.toNat) 0))
        | false => False
      | none => False
    | _ => False
  | some (.ar n _), .int _ m => match x with
    | .ptr id i j => chk (inB m n) (k (.ptr id i (j + m.toNat)))
    | _ => False
  | _, _ => False
def intOf? : Option AV → Option (Option Int)
  | none => some none
  | some (.int _ n) => some (some n)
  | _ => none
/-- The bounds of a slice expression. -/
def cutB (n : Nat) (lo hi : Option Int) : Bool :=
  match lo, hi with
  | none, none => true
  | none, some h => decide (0 ≤ h) && decide (h ≤ (n : Int))
  | some l, none => decide (0 ≤ l) && decide (l ≤ (n : Int))
  | some l, some h => (decide (0 ≤ l) && decide (l ≤ h)) && decide (h ≤ (n : Int))
def cutL {α : Type} (l : List α) (lo hi : Option Int) : List α :=
  match lo, hi with
  | none, none => l
  | none, some h => l.take h.toNat
  | some a, none => l.drop a.toNat
  | some a, some h => (l.drop a.toNat).take (h.toNat - a.toNat)
def keepF (full : Bool) (hi mx : Option Int) : Bool :=
  match hi, mx with
  | none, _ => full
  | some h, some m => h == m
  | some _, none => false
def cutO (id off n : Nat) (lo hi : Option Int) : AV :=
  match lo, hi with
  | none, none => .own id off n
  | none, some h => .own id off h.toNat
  | some a, none => .own id (off + a.toNat) (n - a.toNat)
  | some a, some h => .own id (off + a.toNat) (h.toNat - a.toNat)
def cut (s : AS) (x : AV) (lo hi mx : Option Int) (k : AV → Prop) : Prop :=
  match mx with
  | some m => match lo, hi, x with
    | none, some h, .ints _ kk l => chk ((decide (0 ≤ h) && decide (h ≤ m)) && decide (m ≤ (l.length : Int))) (k (.ints (h == m) kk (l.take h.toNat)))
    | _, _, _ => False
  | none => match x with
    | .nil => chk (cutB 0 lo hi) (k .nil)
    | .ints f kk l => chk (cutB l.length lo hi) (k (.ints (keepF f hi none) kk (cutL l lo hi)))
    | .rs f T l => chk (cutB l.length lo hi) (k (.rs (keepF f hi none) T (cutL l lo hi)))
    | .ownf id => match get s.h id with
      | some e => match entLen e with
        | some n => match lo, hi with
          | none, none => k (.ownf id)
          | _, _ => chk (cutB n lo hi) (k (cutO id 0 n lo hi))
        | none => False
      | none => False
    | .own id off len => chk (cutB len lo hi) (k (cutO id off len lo hi))
    | _ => False
/-- Are the elements of that kind? -/
def sameEK (s : AS) (ek : EK) : AV → Bool
  | .nil => true
  | .ints _ _ _ => match ek with | .i _ => true | _ => false
  | .rs _ T _ => match ek with | .r T' => Nat.beq T T' | _ => false
  | .ownf id => match get s.h id with | some e => Nat.beq (entEs e) (ekEs ek) | none => false
  | .own id _ _ => match get s.h id with | some e => Nat.beq (entEs e) (ekEs ek) | none => false
  | _ => false
def setAt : List AV → Nat → List AV → List AV
  | l, _, [] => l
  | l, j, x :: xs => setAt (setV l j x) (j + 1) xs
/-- A value of so many cells. -/
def fits (v : AV) (size : Nat) : Bool := match flat v with | true => Nat.beq (cnt (cellsOf v)) size | false => false
def fillAt (place : Nat → Option (Nat × Nat)) (cells : List AV) : List (Nat × AV) → Option (List AV)
  | [] => some cells
  | (i, v) :: rest => match place i with
    | none => none
    | some (off, size) => match fits v size, Nat.ble (off + cnt (cellsOf v)) (cnt cells) with
      | true, true => fillAt place (setAt cells off (cellsOf v)) rest
      | _, _ => none
def partsOf (s : AS) : List (Nat × Operand) → Option (List (Nat × AV))
  | [] => some []
  | (i, x) :: l => match aval s x with
    | some y => match partsOf s l with | some r => some ((i, y) :: r) | none => none
    | none => none
def arPlace (n i : Nat) : Option (Nat × Nat) := match Nat.ble n i with | true => none | false => some (i, 1)
def build (Γ : TEnv) (s : AS) (t : TypeId) (parts : List (Nat × Operand)) (k : AV → Prop) : Prop :=
  match tget Γ t, partsOf s parts with
  | some (.st offs z), some ps => match fillAt (offs[·]?) z ps with
    | some l => k (.agg l)
    | none => False
  | some (.ar n z), some ps => match fillAt (arPlace n) z ps with
    | some l => k (.agg l)
    | none => False
  | _, _ => False
def minL (k : IntKind) (x : Int) : List AV → Option Int
  | [] => some x
  | .int k' y :: l => match kbeq k k' with | true => minL k (imin x y) l | false => none
  | _ => none
def maxL (k : IntKind) (x : Int) : List AV → Option Int
  | [] => some x
  | .int k' y :: l => match kbeq k k' with | true => maxL k (imax x y) l | false => none
  | _ => none
def optAval (s : AS) : Option Operand → Option (Option AV)
  | none => some none
  | some x => match aval s x with | some y => some (some y) | none => none
/-- Operations that leave memory as it is. -/
def vop (Γ : TEnv) (s : AS) (op : Op) (k : AV → Prop) : Prop :=
  match op with
  | .move x | .assign x => match aval s x with | some v => k v | none => False
  | .pick c a b => match aval s c with
    | some (.bool v) => br v (match aval s a with | some x => k x | none => False) (match aval s b with | some x => k x | none => False)
    | _ => False
  | .load t a => match aval s a with | some v => load Γ s t v k | none => False
  | .nilCheck x => match aval s x with
    | some (.ptr id i j) => k (.ptr id i j)
    | _ => False
  | .binOp op t x y _ => match aval s x, aval s y with | some a, some b => bin Γ t op a b k | _, _ => False
  | .unOp op _ x => match aval s x with | some a => un op a k | none => False
  | .convert src dst x => match aval s x with | some a => conv Γ s src dst a k | none => False
  | .fieldAddr t x f => match aval s x with | some a => fld Γ t a f k | none => False
  | .indexAddr t x i => match aval s x, aval s i with | some a, some b => idx Γ s t a b k | _, _ => False
  | .slice t x lo hi mx => match tget Γ t, aval s x with
    | some (.sl _ ek), some a => match optAval s lo, optAval s hi, optAval s mx with
      | some lo, some hi, some mx => match intOf? lo, intOf? hi, intOf? mx, sameEK s ek a with
        | some lo, some hi, some mx, true => cut s a lo hi mx k
        | _, _, _, _ => False
      | _, _, _ => False
    | _, _ => False
  | .extract x i => match aval s x with
    | some (.tup l) => match nth l i with | some v => k v | none => False
    | _ => False
  | .build t parts => build Γ s t parts.toList k
  | .call c => match c.callee with
    | .builtin .len => match avalL s c.args.toList, c.argTypes.toList with
      | some [x], [t] => match tget Γ t, lenOf s x with | some (.sl _ _), some n => k (.int .i64 (n : Int)) | _, _ => False
      | _, _ => False
    | .builtin .min => match avalL s c.args.toList with
      | some (.int kk x :: l) => match minL kk x l with | some n => k (.int kk n) | none => False
      | _ => False
    | .builtin .max => match avalL s c.args.toList with
      | some (.int kk x :: l) => match maxL kk x l with | some n => k (.int kk n) | none => False
      | _ => False
    | _ => False
  | _ => False
end

/-- Is it one of the operations that leave memory as it is? -/
def steady (Γ : TEnv) : Op → Bool
  | .move _ | .assign _ | .pick .. | .load .. | .nilCheck _ | .binOp .. | .unOp .. | .fieldAddr .. | .indexAddr .. | .slice .. | .extract .. | .build .. => true
  | .convert _ dst _ => match tget Γ dst with | some (.sl _ _) => false | _ => true
  | .call c => match c.callee with | .builtin .len | .builtin .min | .builtin .max => true | _ => false
  | _ => false

/-! ### operations that write or make memory -/
/-- How a function takes memory of its caller's. -/
inductive Ent where
  | no
  | bx (i : Nat)
  | ln (i j : Nat) (sh : Shp)
structure Pm where
  shps : List Shp
  ent : Ent
  res : List Shp
abbrev Oracle := FuncId → List AV → Option AV → (AV → Option AV → Prop) → Prop
def E0 : Nat := 1000
def lim : Nat := 1099511627776

section
def canonK (sh : Shp) (y : AV) (k : AV → Prop) : Prop := match canon sh y with | some z => k z | none => False
def args1 : List Shp → List AV → AS → (AS → List AV → Prop) → Prop
  | [], [], s, k => k s []
  | .p :: ss, .ptr id i j :: l, s, k => args1 ss l s (fun s zs => k s (.ptr id i j :: zs))
  | sh :: ss, x :: l, s, k => plain s x (fun s y => canonK sh y (fun z => args1 ss l s (fun s zs => k s (z :: zs)))) 9
  | _, _, _, _ => False
def nilEnt : Shp → Option AV
  | .li t k => some (.lini t k [])
  | .lr t T => some (.linr t T [])
  | _ => none
def entRef : AV → Option Nat
  | .box _ l => refL l
  | _ => none
def isPtr (id : Nat) : Option AV → Bool
  | some (.ptr i 0 0) => Nat.beq i id
  | _ => false
/-- A call that hands over a row: a field of an argument; 's' no longer has it. -/
def lnCall (C : Oracle) (s : AS) (d : Option Tmp) (f : FuncId) (i j : Nat) (e : AV) (xs : List AV) (k : AS → Prop) : Prop :=
  match nth xs i, refL xs, d with
  | some (.agg l), none, some d => match allCell l with
    | true => C f (setV xs i (.agg (setV l j (.ownf E0)))) (some e) (fun r e' => match e' with
      | some e2 => (match entRef e2 with
        | none => k (((s.kill d).hput d e2).tput d (renAV E0 d r))
        | some _ => False)
      | none => False)
    | false => False
  | _, _, _ => False
def lnRow (s : AS) (d : Option Tmp) (C : Oracle) (f : FuncId) (i j id : Nat) (xs : List AV) (k : AS → Prop) : Prop :=
  match get s.h id with
  | some e => (match entRef e with
    | none => lnCall C (s.kill id) d f i j e xs k
    | some _ => False)
  | none => False
def lnF (C : Oracle) (shps : List Shp) (s : AS) (d : Option Tmp) (f : FuncId) (args : List AV) (i j : Nat) (sh : Shp) (k : AS → Prop) : Prop :=
  match nth args i with
  | some (.agg l) => match allCell l with
    | true => match nth l j with
      | some .nil => (match nilEnt sh with
        | some e => args1 shps (setV args i (.agg (setV l j .top))) s (fun s xs => lnCall C s d f i j e xs k)
        | none => False)
      | some (.ownf id) => args1 shps (setV args i (.agg (setV l j .top))) s (fun s xs => lnRow s d C f i j id xs k)
      | _ => False
    | false => False
  | _ => False
/-- A call. -/
def callF (C : Oracle) (pm : FuncId → Option Pm) (s : AS) (d : Option Tmp) (f : FuncId) (args : List AV) (k : AS → Prop) : Prop :=
  match pm f with
  | none => False
  | some m => match m.ent with
    | .no => args1 m.shps args s (fun s xs => match refL xs with
      | some _ => False
      | none => C f xs none (fun r e' => match e' with
        | none => k (s.dst d r)
        | some e => match d, entRef e with
          | some d, none => k (((s.kill d).hput d e).tput d (renAV E0 d r))
          | _, _ => False))
    | .bx i => match nth args i with
      | some (.ptr id 0 0) => args1 m.shps args s (fun s xs => match get s.h id with
        | some (.box t l) => match refL l, refL (setV xs i .nil), isPtr id (nth xs i) with
          | none, none, true => C f (setV xs i (.ptr E0 0 0)) (some (.box t l)) (fun r e' => match e' with
            | some (.box t' l') => match refL l', Nat.beq t t', Nat.beq (cnt l) (cnt l') with
              | none, true, true => k ((s.hput id (.box t l')).dst d (renAV E0 id r))
              | _, _, _ => False
            | _ => False)
          | _, _, _ => False
        | _ => False)
      | _ => False
    | .ln i j sh => lnF C m.shps s d f args i j sh k
/-- What a function value has captured: a variable that is no longer written. -/
def capL : Option (List Int) → List AV
  | none => []
  | some l => [.gpr 1 ⟨0, 0, 0, 0, false, l⟩ 0]
def appV : List AV → List AV → List AV
  | [], m => m
  | x :: l, m => x :: appV l m
/-- A call of a function value. -/
def callV (C : Oracle) (pm : FuncId → Option Pm) (s : AS) (d : Option Tmp) (f : FuncId) (c : Option (List Int)) (args : List AV) (k : AS → Prop) : Prop :=
  match pm f with
  | none => False
  | some m => match m.ent with
    | .no => args1 m.shps args s (fun s xs => match refL xs with
      | some _ => False
      | none => C f (appV xs (capL c)) none (fun r e' => match e' with
        | none => k (s.dst d r)
        | some _ => False))
    | _ => False
end

section
def zerosE (t : TI) : Option AV := t.zero
/-- The memory that a literal of a slice makes. -/
def intsOf (k : IntKind) : List (Nat × AV) → Option (List Int)
  | [] => some []
  | (_, .int k' n) :: l => match kbeq k k' with
    | true => match intsOf k l with | some r => some (n :: r) | none => none
    | false => none
  | _ => none
def recsOf (T : Nat) : List (Nat × AV) → Option (List Rec)
  | [] => some []
  | (_, x) :: l => match dec T x with
    | some r => match recsOf T l with | some rs => some (r :: rs) | none => none
    | none => none
def cellsOne : List (Nat × AV) → Option (List AV)
  | [] => some []
  | (_, x) :: l => match isCell x, flat x with
    | true, true => match cellsOne l with | some r => some (x :: r) | none => none
    | _, _ => none
/-- The places n, n + 1, .., up to len. -/
def inOrder (n len : Nat) : List (Nat × AV) → Bool
  | [] => Nat.beq n len
  | (i, _) :: l => match Nat.beq i n with | true => inOrder (n + 1) len l | false => false
/-- Until no name is left in the parts. -/
def plainL (s : AS) (acc : List (Nat × AV)) (k : AS → List (Nat × AV) → Prop) : List (Nat × AV) → Prop
  | [] => k s acc.reverse
  | (i, x) :: l => plain s x (fun s y => plainL s ((i, y) :: acc) k l) 9
def mkSlice (Γ : TEnv) (s : AS) (d : Nat) (t : TypeId) (len : Nat) (parts : List (Nat × AV)) (k : AS → Prop) : Prop :=
  match inOrder 0 len parts, Nat.ble len 1000 with
  | true, true => match tget Γ t with
    | some (.sl e (.i kk)) => match intsOf kk parts with
      | some l => k (s.new d (.lini e kk l) (.ownf d))
      | none => False
    | some (.sl e (.r T)) => plainL s [] (fun s ps => match recsOf T ps with
      | some l => k (s.new d (.linr e T l) (.ownf d))
      | none => False) parts
    | some (.sl e .c) => plainL s [] (fun s ps => match cellsOne ps with
      | some l => k (s.new d (.box e l) (.ownf d))
      | none => False) parts
    | _ => False
  | _, _ => False
def zerosN (x : AV) : Option Int := match x with | .int .i64 n => some n | _ => none
/-- 'append': the base is nil, a row of the call's own, or a slice without room. -/
def appI (s : AS) (d : Nat) (e : TypeId) (kk : IntKind) (xs : List Int) (b : AV) (k : AS → Prop) : Prop :=
  match b with
  | .nil => chk (decide (xs.length ≤ lim)) (k (s.new d (.lini e kk xs) (.ownf d)))
  | .ints true kk' l => match kbeq kk kk' with
    | true => chk (decide (0 < xs.length) && decide (l.length + xs.length ≤ lim)) (k (s.new d (.lini e kk (l ++ xs)) (.ownf d)))
    | false => False
  | .ownf id => match get s.h id with
    | some (.lini e' kk' l) => match Nat.beq e e', kbeq kk kk' with
      | true, true => chk (decide (l.length + xs.length ≤ lim)) (k ((s.kill id).new d (.lini e kk (l ++ xs)) (.ownf d)))
      | _, _ => False
    | _ => False
  | _ => False
def appZ (s : AS) (d : Nat) (e : TypeId) (kk : IntKind) (n : Int) (b : AV) (k : AS → Prop) : Prop :=
  match b with
  | .ownf id => match get s.h id with
    | some (.lini e' kk' l) => match Nat.beq e e', kbeq kk kk' with
      | true, true => chk (decide (0 ≤ n) && decide ((l.length : Int) + n ≤ (lim : Int))) (k ((s.kill id).new d (.lini e kk (l ++ List.replicate n.toNat 0)) (.ownf d)))
      | _, _ => False
    | _ => False
  | _ => False
def appR (s : AS) (d : Nat) (e : TypeId) (T : Nat) (xs : List Rec) (b : AV) (k : AS → Prop) : Prop :=
  match b with
  | .nil => chk (decide (xs.length ≤ lim)) (k (s.new d (.linr e T xs) (.ownf d)))
  | .ownf id => match get s.h id with
    | some (.linr e' T' l) => match Nat.beq e e', Nat.beq T T' with
      | true, true => chk (decide (l.length + xs.length ≤ lim)) (k ((s.kill id).new d (.linr e T (l ++ xs)) (.ownf d)))
      | _, _ => False
    | _ => False
  | _ => False
def app (Γ : TEnv) (s : AS) (d : Nat) (t t' : TypeId) (b x : AV) (k : AS → Prop) : Prop :=
  match tget Γ t with
  | some (.sl e (.i kk)) => match Nat.beq t t' with
    | true => match listI s kk x with
      | some xs => appI s d e kk xs b k
      | none => False
    | false => match tget Γ t', zerosN x with
      | some (.int _), some n => appZ s d e kk n b k
      | _, _ => False
  | some (.sl e (.r T)) => match Nat.beq t t' with
    | true => match listR s T x with
      | some xs => appR s d e T xs b k
      | none => False
    | false => False
  | _ => False
def setCells (l : List AV) (j : Nat) (cs : List AV) : Option (List AV) :=
  match Nat.ble (j + cnt cs) (cnt l) with | true => some (setAt l j cs) | false => none
def oneOf : List AV → AV
  | [x] => x
  | cs => .agg cs
def storeOp (s : AS) (a v : AV) (k : AS → Prop) : Prop :=
  match a with
  | .ptr id i j => match get s.h id with
    | some (.box t l) => match setCells l (i + j) (cellsOf v) with
      | some l' => k (s.hput id (.box t l'))
      | none => False
    | some (.lini t kk l) => match Nat.beq j 0, v with
      | true, .int kk' n => match kbeq kk kk' with
        | true => chk (decide (i < l.length)) (k (s.hput id (.lini t kk (l.set i n))))
        | false => False
      | _, _ => False
    | some (.linr _ _ _) => plain s v (fun s v => match get s.h id with
        | some (.linr t T l) => match setCells (cellsOf (enc T (l.getD i default))) j (cellsOf v) with
          | some cs => match dec T (oneOf cs) with
            | some r => match flat v with
              | true => chk (decide (i < l.length)) (k (s.hput id (.linr t T (l.set i r))))
              | false => False
            | none => False
          | none => False
        | _ => False) 9
    | _ => False
  | _ => False
def mkMake (Γ : TEnv) (s : AS) (d : Nat) (t : TypeId) (n c : AV) (k : AS → Prop) : Prop :=
  match tget Γ t, n, c with
  | some (.sl e (.i kk)), .int .i64 n, .int .i64 c => chk ((decide (0 ≤ n) && decide (n ≤ c)) && decide (c ≤ (lim : Int))) (k (s.new d (.lini e kk (List.replicate n.toNat 0)) (.ownf d)))
  | _, _, _ => False
/-- Operations that write or make memory. -/
def wop (Γ : TEnv) (C : Oracle) (pm : FuncId → Option Pm) (s : AS) (dst : Option Tmp) (op : Op) (k : AS → Prop) : Prop :=
  match op, dst with
  | .alloc t, some d => match tget Γ t with
    | some ti => match ti.zero with
      | some z => match Nat.ble (cnt (cellsOf z)) 1000 with
        | true => k (s.new d (.box t (cellsOf z)) (.ptr d 0 0))
        | false => False
      | none => False
    | none => False
  | .box t x, some d => match aval (s.kill d) x, tget Γ t with
    | some v, some ti => match fits v ti.size, Nat.ble (cnt (cellsOf v)) 1000 with
      | true, true => k (((s.kill d).hput d (.box t (cellsOf v))).tput d (.ptr d 0 0))
      | _, _ => False
    | _, _ => False
  | .buildSlice t len parts, some d => match partsOf s parts.toList with
    | some ps => mkSlice Γ s d t len ps k
    | none => False
  | .makeSlice t n c, some d => match aval s n, aval s c with
    | some n, some c => mkMake Γ s d t n c k
    | _, _ => False
  | .store t a x, none => match aval s a, aval s x, tget Γ t with
    | some a, some v, some ti => match fits v ti.size with
      | true => storeOp s a v k
      | false => False
    | _, _, _ => False
  | .convert src dt x, some d => match Nat.beq src dt, tget Γ dt, aval s x with
    | true, some (.sl _ (.i .u8)), some (.ownf id) => match get s.h id with
      | some (.lini t kk (z :: l)) => k ((s.frz id (.lini t kk (z :: l))).tput d (.ints false kk (z :: l)))
      | _ => False
    | _, _, _ => False
  | .call c, dst => match c.callee with
    | .builtin .append => match c.args.toList, c.argTypes.toList, dst with
      | [bo, xo], [t, t'], some d => match aval s bo, aval s xo with
        | some b, some x => app Γ s d t t' b x k
        | _, _ => False
      | _, _, _ => False
    | .value (.func f) => match avalL s c.args.toList with
      | some args => callF C pm s dst f args k
      | none => False
    | .value (.tmp t) => match get s.t t, avalL s c.args.toList with
      | some (.fn f cp), some args => callV C pm s dst f cp args k
      | _, _ => False
    | _ => False
  | .makeFunc (.func f) first cap, some d => match first.toList, cap.toList with
    | [], [.tmp t] => match get s.t t with
      | some (.ptr id 0 0) => match get s.h id with
        | some (.box _ [.ints _ .u8 l]) => k ((s.kill id).tput d (.fn f (some l)))
        | _ => False
      | _ => False
    | _, _ => False
  | _, _ => False
end

/-! ### code -/
/-- A step of a region that draws (see Lin): steady operations, then one other. -/
structure Plan where
  tree : PT
  flags : List (Nat × Bool)
  tab : Array Nat
  hide : List Tmp
inductive Out where
  | normal
  | exit (id : Nat)
  | ret
inductive Loc where
  | t (n : Nat)
  | c (id j : Nat)
/-- What is kept at the head of a loop: how each place is written (own: under which name). -/
inductive Keep where
  | shp (sh : Shp)
  | own (id : Nat) (sh : Shp)
  | ptr
structure Cfg where
  n : Nat
  Γ : TEnv
  C : Oracle
  pm : FuncId → Option Pm
  plan : Nat → Option Plan
  L : Nat → AS → (Out → AS → Prop) → Prop
  unroll : Nat → Nat
  keep : Nat → Option (List (Loc × Keep))

section
def slotOf (ops : List Oper) (j : Nat) : Option Tmp := match ops[j]? with | some o => o.dst | none => none
def op1 (c : Cfg) (s : AS) (o : Oper) (k : AS → Prop) : Prop :=
  match steady c.Γ o.op with
  | true => match o.dst with
    | some d => vop c.Γ s o.op (fun v => k (s.tput d v))
    | none => False
  | false => wop c.Γ c.C c.pm s o.dst o.op k
def dstOk (n : Nat) : Option Tmp → Bool
  | some d => Nat.blt d n
  | none => true
def opG (c : Cfg) (ops : List Oper) (s : AS) (o : Oper) (k : AS → Prop) : Prop :=
  match dstOk c.n o.dst with
  | false => False
  | true => match o.guard with
  | none => op1 c s o k
  | some (j, want) => match slotOf ops j with
    | none => False
    | some d => match get s.t d with
      | some (.bool b) => br b
          (match want with | true => op1 c (s.tput d (.bool true)) o k | false => k ((s.tput d (.bool true)).dst o.dst .undef))
          (match want with | false => op1 c (s.tput d (.bool false)) o k | true => k ((s.tput d (.bool false)).dst o.dst .undef))
      | some .undef => k (s.dst o.dst .undef)
      | _ => False
def opsG (c : Cfg) (ops : List Oper) : List Oper → AS → (AS → Prop) → Prop
  | [], s, k => k s
  | o :: l, s, k => opG c ops s o (fun s => opsG c ops l s k)
/-- The names that the slots 'ts' point to; 2000 + n is the name n itself. -/
def hidden (s : AS) : List Tmp → List Nat
  | [] => []
  | t :: l => match Nat.ble 2000 t with
    | true => (t - 2000) :: hidden s l
    | false => match get s.t t with
      | some (.ptr id _ _) => id :: hidden s l
      | some (.ownf id) => id :: hidden s l
      | _ => hidden s l
/-- The names that an operation may write. -/
def modsStore (s : AS) (x : Operand) : List Nat := match aval s x with | some (.ptr id _ _) => [id] | _ => []
def modsApp (b : AV) : List Nat := match b with | .ownf id => [id] | _ => []
def modsConv (s : AS) (x : Operand) : List Nat := match aval s x with | some (.ownf id) => [id] | _ => []
def modsCall (pm : FuncId → Option Pm) (f : FuncId) (args : List AV) : List Nat :=
  match pm f with
  | some m => match m.ent with
    | .bx i => match nth args i with | some (.ptr id _ _) => [id] | _ => []
    | .ln i j _ => match nth args i with
      | some (.agg l) => match nth l j with | some (.ownf id) => [id] | _ => []
      | _ => []
    | .no => []
  | none => []
def mods (pm : FuncId → Option Pm) (s : AS) (op : Op) : List Nat :=
  match op with
  | .store _ x _ => modsStore s x
  | .convert _ _ x => modsConv s x
  | .call c => match c.callee with
    | .builtin .append => match c.args.toList with
      | [bo, _] => match aval s bo with | some b => modsApp b | none => []
      | _ => []
    | .value (.func f) => match avalL s c.args.toList with
      | some args => modsCall pm f args
      | none => []
    | _ => []
  | _ => []
def allSteady (Γ : TEnv) : List Oper → Bool
  | [] => true
  | o :: l => match steady Γ o.op with | true => allSteady Γ l | false => false
def subL (m : List Nat) : List Nat → Bool
  | [] => true
  | i :: l => match mem i m with | true => subL m l | false => false
def allIn (h : Env) : List Nat → Bool
  | [] => true
  | i :: l => match get h i with | some _ => allIn h l | none => false
def notHid (hide : List Nat) : Option Tmp → Bool
  | some d => match mem d hide with | true => false | false => true
  | none => true
def okStep (c : Cfg) (flag : Bool) (hide : List Nat) (s : AS) (o : Oper) : Bool :=
  match notHid hide o.dst with
  | false => false
  | true => match flag with
    | true => subL hide (mods c.pm s o.op)
    | false => true
def PTs.nil? : PTs → Bool
  | .nil => true
  | _ => false
mutual
/-- No steady operations, no flags. -/
def bareT : PT → Bool
  | .node l alts => match l with | [] => bareTs alts | _ :: _ => false
def bareTs : PTs → Bool
  | .nil => true
  | .cons _ flag t r => match flag with
    | true => false
    | false => match bareT t with | true => bareTs r | false => false
end
mutual
def treeG (c : Cfg) (ops : List Oper) (hide : List Nat) : PT → AS → (AS → Prop) → Prop
  | .node l alts, s, k => match allSteady c.Γ (l.map fun i => ops.getD i default) with
    | false => False
    | true => opsG c ops (l.map fun i => ops.getD i default) ⟨s.t, shade hide s.h⟩ (fun s1 =>
      match PTs.nil? alts with
      | true => k ⟨s1.t, s.h⟩
      | false => treesG c ops hide alts ⟨s1.t, s.h⟩ k)
/-- Each of the orders; where there are several, what the first one leads to is what the others lead to. -/
def treesG (c : Cfg) (ops : List Oper) (hide : List Nat) : PTs → AS → (AS → Prop) → Prop
  | .nil, _, _ => True
  | .cons j flag t r, s, k => match okStep c flag hide s (ops.getD j default) with
    | false => False
    | true => match PTs.nil? r with
      | true => opG c ops s (ops.getD j default) (fun s2 => match allIn s2.h hide with
        | true => treeG c ops hide t s2 k
        | false => match bareT t with | true => treeG c ops [] t s2 k | false => False)
      | false => opG c ops s (ops.getD j default) (fun s2 => match allIn s2.h hide with
          | true => treeG c ops hide t s2 k
          | false => match bareT t with | true => treeG c ops [] t s2 k | false => False) ∧
        ∀ K : AS → Prop, opG c ops s (ops.getD j default) (fun s2 => match allIn s2.h hide with
          | true => treeG c ops hide t s2 K
          | false => match bareT t with | true => treeG c ops [] t s2 K | false => False) → treesG c ops hide r s K
end
def locGet (s : AS) : Loc → Option AV
  | .t n => get s.t n
  | .c id j => match get s.h id with
    | some (.box _ l) => match nth l j with
      | some x => (match isCell x with | true => some x | false => none)
      | none => none
    | _ => none
def locPut (s : AS) (z : AV) : Loc → AS
  | .t n => s.tput n z
  | .c id j => match get s.h id with
    | some (.box t l) => s.hput id (.box t (setV l j z))
    | _ => s
def locIs (id : Nat) : Loc → Bool
  | .t _ => false
  | .c i _ => Nat.beq i id
def norm1 (s : AS) (lc : Loc) (kp : Keep) (k : AS → Prop) : Prop :=
  match locGet s lc with
  | none => False
  | some x => match kp with
    | .ptr => k s
    | .shp sh => plain s x (fun s y => canonK sh y (fun z => match isCell z, lc with
      | false, .c _ _ => False
      | _, _ => k (locPut s z lc))) 9
    | .own id sh => match locIs id lc with
      | true => False
      | false => match Nat.beq id E0 with
       | true => False
       | false => match x with
        | .nil => match nilEnt sh with
          | some e => k (locPut ((s.kill id).hput id e) (.ownf id) lc)
          | none => False
        | .ownf i => match Nat.beq i id with
          | true => k s
          | false => match get s.h i, locIs i lc with
            | some e, false => (match entRef e with
              | none => k (locPut ((((s.kill i).kill id).hput id e)) (.ownf id) lc)
              | some _ => False)
            | _, _ => False
        | _ => False
def normL (s : AS) (k : AS → Prop) : List (Loc × Keep) → Prop
  | [] => k s
  | (lc, kp) :: l => norm1 s lc kp (fun s => normL s k l)
def keptT : List (Loc × Keep) → List Nat
  | [] => []
  | (.t n, _) :: l => n :: keptT l
  | _ :: l => keptT l
def keptH : List (Loc × Keep) → AS → List Nat
  | [], _ => []
  | (.c id _, _) :: l, s => id :: keptH l s
  | (.t n, .ptr) :: l, s => match get s.t n with | some (.ptr id _ _) => id :: keptH l s | _ => keptH l s
  | (.t _, .own id _) :: l, s => id :: keptH l s
  | _ :: l, s => keptH l s
def keptO : List (Loc × Keep) → List Nat
  | [] => []
  | (_, .own id _) :: l => id :: keptO l
  | _ :: l => keptO l
def app2 : List Nat → List Nat → List Nat
  | [], m => m
  | i :: l, m => i :: app2 l m
def norm (kps : List (Loc × Keep)) (s : AS) (k : AS → Prop) : Prop :=
  normL s (fun s => k ⟨only (keptT kps) s.t, only (app2 (keptH kps s) (keptO kps)) s.h⟩) kps
def keyOf : Code → Nat
  | .region id _ _ => id
  | .seq a _ => keyOf a
  | .block _ c => keyOf c
  | .loop c => keyOf c
  | .scope c => keyOf c
  | _ => 0
def unrollG (body : AS → (Out → AS → Prop) → Prop) (k : Out → AS → Prop) : Nat → AS → Prop
  | 0, _ => False
  | n + 1, s => body s (fun o s => match o with
    | .normal => unrollG body k n s
    | o => k o s)
def exec (c : Cfg) : Code → AS → (Out → AS → Prop) → Prop
  | .skip, s, k => k .normal s
  | .region id ops draw, s, k => match draw with
    | false => opsG c ops.toList ops.toList s (k .normal)
    | true => match c.plan id with
      | some p => match allIn s.h (hidden s p.hide) with
        | true => treeG c ops.toList (hidden s p.hide) p.tree s (k .normal)
        | false => False
      | none => False
  | .seq a b, s, k => exec c a s (fun o s => match o with | .normal => exec c b s k | o => k o s)
  | .cond x a b, s, k => match aval s x with
    | some (.bool v) => match x with
      | .tmp d => br v (exec c a (s.tput d (.bool true)) k) (exec c b (s.tput d (.bool false)) k)
      | _ => False
    | _ => False
  | .block id a, s, k => exec c a s (fun o s => match o with
    | .exit i => match Nat.beq i id with | true => k .normal s | false => k (.exit i) s
    | o => k o s)
  | .loop a, s, k => match c.keep (keyOf a) with
    | some kps => norm kps s (fun s => c.L (keyOf a) s k)
    | none => unrollG (exec c a) k (c.unroll (keyOf a)) s
  | .exit id, s, k => k (.exit id) s
  | .ret, s, k => k .ret s
  | _, _, _ => False

/-! ### a function -/
def notTU : AV → Bool
  | .tup _ => false
  | .undef => false
  | _ => true
def loadRes (Γ : TEnv) (s : AS) : ResultVar → Option AV
  | .tmp t => match get s.t t with
    | some x => (match notTU x with | true => some x | false => none)
    | none => none
  | .cell p ty => match get s.t p with
    | some (.ptr id 0 0) => match get s.h id, tget Γ ty with
      | some (.box _ l), some ti => match ti.agg, Nat.beq ti.size (cnt l) with
        | true, true => some (.agg l)
        | _, _ => none
      | _, _ => none
    | _ => none
def loadsRes (Γ : TEnv) (s : AS) : List ResultVar → Option (List AV)
  | [] => some []
  | x :: l => match loadRes Γ s x with
    | some y => match loadsRes Γ s l with | some r => some (y :: r) | none => none
    | none => none
/-- Memory that goes to the caller. -/
def finE (s : AS) (e : Option AV) (id : Nat) (y : AV) (k : AS → Option AV → AV → Prop) : Prop :=
  match e with
  | some _ => False
  | none => match get s.h id with
    | some en => match entRef en with
      | none => k (s.kill id) (some en) y
      | some _ => False
    | none => False
def finN (s : AS) (e : Option AV) (en : AV) (k : AS → Option AV → AV → Prop) : Prop :=
  match e with
  | some _ => False
  | none => k s (some en) (.ownf E0)
mutual
/-- A result in the form that it has between functions; at most one part of it is memory that the caller may write. -/
def fin (s : AS) (e : Option AV) (sh : Shp) (x : AV) (k : AS → Option AV → AV → Prop) : Prop :=
  match sh with
  | .li t kk => match x with
    | .ownf id => finE s e id (.ownf E0) k
    | .nil => finN s e (.lini t kk []) k
    | _ => False
  | .lr t T => match x with
    | .ownf id => finE s e id (.ownf E0) k
    | .nil => finN s e (.linr t T []) k
    | _ => False
  | .p => match x with
    | .ptr id 0 0 => finE s e id (.ptr E0 0 0) k
    | _ => False
  | .a ss => match x with
    | .agg l => finL s e ss l (fun s e l => k s e (.agg l))
    | _ => False
  | .s => match isCell x with | true => plain s x (fun s y => canonK .s y (fun z => k s e z)) 9 | false => False
  | .i kk => match isCell x with | true => plain s x (fun s y => canonK (.i kk) y (fun z => k s e z)) 9 | false => False
  | .r T => match isCell x with | true => plain s x (fun s y => canonK (.r T) y (fun z => k s e z)) 9 | false => False
  | .f => False
def finL (s : AS) (e : Option AV) (ss : List Shp) (l : List AV) (k : AS → Option AV → List AV → Prop) : Prop :=
  match ss, l with
  | [], [] => k s e []
  | sh :: ss, x :: l => fin s e sh x (fun s e y => finL s e ss l (fun s e ys => k s e (y :: ys)))
  | _, _ => False
end
end

section
def paramsFrom (n : Nat) : List AV → Env
  | [] => []
  | x :: l => (n, x) :: paramsFrom (n + 1) l
def startH : Option AV → Env
  | some e => [(E0, e)]
  | none => []
def one : List AV → AV
  | [x] => x
  | l => .tup l
def finish (Γ : TEnv) (pm : Pm) (fn : Func) (s : AS) (post : AV → Option AV → Prop) : Prop :=
  match loadsRes Γ s fn.results.toList with
  | none => False
  | some rs => match pm.ent with
    | .bx _ => finL s none pm.res rs (fun s e l => match e, get s.h E0 with
      | none, some (.box t y) => (match refL y with | none => post (one l) (some (.box t y)) | some _ => False)
      | _, _ => False)
    | _ => finL s none pm.res rs (fun _ e l => post (one l) e)
/-- What a function gives. -/
def runF (c : Cfg) (pm : Pm) (fn : Func) (args : List AV) (e : Option AV) (post : AV → Option AV → Prop) : Prop :=
  match fn.body with
  | none => False
  | some code => exec c code ⟨paramsFrom 0 args, startH e⟩ (fun o s => match o with
    | .exit _ => False
    | _ => finish c.Γ pm fn s post)
end
end Go.Proofs.Ytnioiijcmdnhaaa.V
