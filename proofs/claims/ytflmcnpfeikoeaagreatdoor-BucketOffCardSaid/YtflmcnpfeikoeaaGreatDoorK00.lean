/- CelA: the abstract domain and the evaluator: values as data trees, own blocks by small numbers; code is run on these by reduction alone. -/
import Derived.WalkKit
import Derived.Laws.StructEq
set_option linter.unusedVariables false
namespace Go.Cel

/-- Data: what a cell holds that hangs on no memory that may still change. -/
inductive D where
  | int (k : IntKind) (n : Int)
  | bool (b : Bool)
  | str (s : ByteArray)
  | nilsl
  | seq (t : TypeId) (es : List (List D))
  | cutsl (t : TypeId) (es : List (List D))
  | eptr (cs : List D)
  | nilp
  | nilfn
  | nilmap
  | nilif
  | fn (f : FuncId) (first caps : List D)
  | mfn (f : FuncId) (recv : List D)
  deriving Inhabited

/-- What a function value holds on to. -/
inductive C where
  | d (x : D)
  | ptr (id off : Nat)

/-- What a cell holds: data, or a way to a block of one's own. -/
inductive L where
  | d (x : D)
  | ptr (id off : Nat)
  | orow (id : Nat)
  | optr (id i off sz : Nat)
  | osl (id lo hi sz : Nat)
  | omap (id : Nat)
  | ofn (f : FuncId) (first caps : List C)

instance : Inhabited L := ⟨.d .nilp⟩

inductive B where
  | l (x : L)
  | agg (cs : List L)

inductive A where
  | b (x : B)
  | tup (vs : List B)
  | undef

/-- A block of one's own: cells; a row; a row of which some elements are not known, or reach behind its length; a row of which one element holds ways to other blocks; a map. -/
inductive Blk where
  | cells (cs : List L) (t : TypeId)
  | row (t : TypeId) (es : List (List D))
  | spread (t : TypeId) (es : List (Option (List D)))
  | rowp (t : TypeId) (es : List (List D)) (i : Nat) (cs : List L)
  | map (t : TypeId) (m : List (B × B))

inductive Kd where
  | int (k : IntKind) | bool | str | slice (e : Nat) | struct (fs : List (Nat × Nat)) | ptr (e : Nat) | arr (n e : Nat) | map (k e : Nat) | fn | other

structure Ty where
  kd : Kd
  size : Nat
  bytes : Nat
  zero : List D

def Ty.none : Ty := ⟨.other, 0, 0, []⟩

abbrev Path := List (Nat × Bool)

structure St where
  regs : List (Nat × Path × A)
  own : List (Nat × Blk)
  nx : Nat
  gv : List (Nat × Path × Bool)
  asm : Path
  sz : Nat

def look {α : Type} (k : Nat) : List (Nat × α) → Option α
  | [] => Option.none
  | (j, v) :: r => bif Nat.beq j k then some v else look k r

def beqB : Bool → Bool → Bool
  | true, true => true
  | false, false => true
  | _, _ => false

def memG (t : Nat) (b : Bool) : Path → Bool
  | [] => false
  | (u, c) :: r => bif Nat.beq u t && beqB c b then true else memG t b r

def covers (asm p : Path) : Path → Bool
  | [] => true
  | (t, b) :: r => (memG t b asm || memG t b p) && covers asm p r

/-- some of a path is known not to hold. -/
def dead (asm : Path) : Path → Bool
  | [] => false
  | (t, b) :: r => memG t (!b) asm || dead asm r

abbrev dl (x : D) : A := .b (.l (.d x))

def cvalV : Value → Option D
  | .int k n => some (.int k n)
  | .bool b => some (.bool b)
  | .string s => some (.str s)
  | .slice Option.none 0 0 => some .nilsl
  | .pointer Option.none => some .nilp
  | .nilFunc => some .nilfn
  | .map Option.none => some .nilmap
  | .nilIface => some .nilif
  | _ => Option.none

def ev (s : St) (p : Path) : Operand → Option A
  | .tmp t => match look t s.regs with
    | some (q, v) => bif covers s.asm p q then some v else Option.none
    | Option.none => Option.none
  | .const v => match cvalV v with
    | some x => some (dl x)
    | Option.none => Option.none
  | .func f => some (dl (.fn f [] []))
  | .global _ => Option.none

/-- a value into a slot. -/
def put (s : St) (d : Option Nat) (p : Path) (v : A) : Option St :=
  match s, d with
  | s, Option.none => some s
  | ⟨R, O, n, g, m, z⟩, some d => match look d g with
    | Option.none => bif Nat.blt d z then some ⟨(d, p, v) :: R, O, n, g, m, z⟩ else Option.none
    | some _ => Option.none

/-- a bool that guards may ask for, noted. -/
def putG (s : St) (d : Option Nat) (p : Path) (x : Bool) : Option St :=
  match s, d with
  | s, Option.none => some s
  | ⟨R, O, n, g, m, z⟩, some d => match look d g with
    | Option.none => bif Nat.blt d z then some ⟨(d, p, dl (.bool x)) :: R, O, n, (d, p, x) :: g, m, z⟩ else Option.none
    | some _ => Option.none

def intOp (op : BinOp) (k : IntKind) (a b : Int) : Option D :=
  match op with
  | .add => some (.int k (k.wrap (a + b)))
  | .sub => some (.int k (k.wrap (a - b)))
  | .mul => some (.int k (k.wrap (a * b)))
  | .eql => some (.bool (a == b))
  | .neq => some (.bool (a != b))
  | .lss => some (.bool (decide (a < b)))
  | .leq => some (.bool (decide (a ≤ b)))
  | .gtr => some (.bool (decide (b < a)))
  | .geq => some (.bool (decide (b ≤ a)))
  | .and => some (.int k (k.wrap (BitVec.ofInt k.bits a &&& BitVec.ofInt k.bits b).toNat))
  | .or => some (.int k (k.wrap (BitVec.ofInt k.bits a ||| BitVec.ofInt k.bits b).toNat))
  | .xor => some (.int k (k.wrap (BitVec.ofInt k.bits a ^^^ BitVec.ofInt k.bits b).toNat))
  | _ => Option.none

def strOp (op : BinOp) (a b : ByteArray) : Option D :=
  match op with
  | .eql => some (.bool (a == b))
  | .neq => some (.bool (!(a == b)))
  | .lss => some (.bool (Op.bytesLess a.toList b.toList))
  | .leq => some (.bool (Op.bytesLess a.toList b.toList || a == b))
  | .gtr => some (.bool (!(Op.bytesLess a.toList b.toList || a == b)))
  | .geq => some (.bool (!Op.bytesLess a.toList b.toList))
  | _ => Option.none

/-- whole numbers of a kind, alike? -/
def sameKind : IntKind → IntKind → Bool
  | .i8, .i8 | .i16, .i16 | .i32, .i32 | .i64, .i64 | .u8, .u8 | .u16, .u16 | .u32, .u32 | .u64, .u64 => true
  | _, _ => false

/-- shifts by a constant count; quotients by a constant. -/
def constOp (op : BinOp) (k : IntKind) (a : Int) (y : Operand) : Option D :=
  match op, y with
  | .shr, .const (.int _ (.ofNat n)) => some (.int k (a.fdiv (2 ^ (min n k.bits))))
  | .shl, .const (.int _ (.ofNat n)) => some (.int k (k.wrap (a * 2 ^ (min n k.bits))))
  | .quo, .const (.int k2 (.ofNat (n + 1))) => bif sameKind k k2 then some (.int k (k.wrap (a.tdiv ((n + 1 : Nat) : Int)))) else Option.none
  | .rem, .const (.int k2 (.ofNat (n + 1))) => bif sameKind k k2 then some (.int k (a.tmod ((n + 1 : Nat) : Int))) else Option.none
  | _, _ => Option.none

/-- '==' of two cells by their kind. -/
def eqD : D → D → Option Bool
  | .int _ a, .int _ b => some (a == b)
  | .bool a, .bool b => some (a == b)
  | .str a, .str b => some (a == b)
  | _, _ => Option.none

/-- '==' of two structs, cell by cell. -/
def eqCells : List L → List L → Option Bool
  | [], [] => some true
  | [.d x], [.d y] => eqD x y
  | .d x :: xs, .d y :: ys => match eqD x y, eqCells xs ys with
    | some a, some b => some (a && b)
    | _, _ => Option.none
  | _, _ => Option.none

def dropGo {α β : Type} : Nat → List α → (List α → Option β) → Option β
  | 0, l, k => k l
  | _ + 1, [], k => k []
  | n + 1, _ :: r, k => dropGo n r k

/-- the first n of a list, turned into cells. -/
def takeGo {α β : Type} (f : α → L) : Nat → List α → List L → (List L → Option β) → Option β
  | 0, _, acc, k => k acc
  | _ + 1, [], _, _ => Option.none
  | n + 1, x :: r, acc, k => takeGo f n r (f x :: acc) k

def revGo {α β : Type} : List α → List α → (List α → Option β) → Option β
  | [], acc, k => k acc
  | x :: r, acc, k => revGo r (x :: acc) k

/-- a value of so many cells out of a list. -/
def readL (agg : Bool) (size off : Nat) (cs : List L) : Option A :=
  dropGo off cs fun r =>
    match agg, r with
    | true, r => takeGo (fun x => x) size r [] fun rev => revGo rev [] fun l => some (.b (.agg l))
    | false, x :: _ => some (.b (.l x))
    | false, [] => Option.none
def readD (agg : Bool) (size : Nat) (cs : List D) : Option A :=
    match agg, cs with
    | true, r => takeGo L.d size r [] fun rev => revGo rev [] fun l => some (.b (.agg l))
    | false, x :: _ => some (dl x)
    | false, [] => Option.none

def Kd.agg : Kd → Bool
  | .struct _ | .arr _ _ => true
  | _ => false

/-- the cells of a list, some of them turned. -/
def writeGo {β : Type} : Nat → List L → List L → List L → (List L → Option β) → Option β
  | _, [], cs, acc, k => revGo acc cs k
  | 0, x :: new, _ :: cs, acc, k => writeGo 0 new cs (x :: acc) k
  | off + 1, x :: new, c :: cs, acc, k => writeGo off (x :: new) cs (c :: acc) k
  | _, _ :: _, [], _, _ => Option.none
  termination_by structural _ _ cs => cs

def updGo (id : Nat) (b : Blk) (k : List (Nat × Blk) → Option St) : List (Nat × Blk) → List (Nat × Blk) → Option St
  | [], acc => revGo acc [] k
  | (j, c) :: r, acc => bif Nat.beq j id then updGo id b k r ((j, b) :: acc) else updGo id b k r ((j, c) :: acc)

def cellsA : A → Option (List L)
  | .b (.l x) => some [x]
  | .b (.agg cs) => some cs
  | _ => Option.none

def lenL {α : Type} : List α → Nat → Bool
  | [], 0 => true
  | _ :: r, n + 1 => lenL r n
  | _, _ => false

def Kd.known : Kd → Bool
  | .other => false
  | _ => true

variable (T : Nat → Ty)

/-- laying the parts of a struct into its zero cells. -/
def buildGo (fs : List (Nat × Nat)) (s : St) (p : Path) (k : List L → Option A) : List (Nat × Operand) → List L → Option A
  | [], cs => k cs
  | (i, x) :: r, cs => match fs[i]?, ev s p x with
    | some (off, ft), some v => match cellsA v with
      | some new => bif (T ft).kd.known && lenL new (T ft).size then writeGo off new cs [] fun cs => buildGo fs s p k r cs else Option.none
      | Option.none => Option.none
    | _, _ => Option.none

def zeroGo {β : Type} : List D → List L → (List L → Option β) → Option β
  | [], acc, k => revGo acc [] k
  | x :: r, acc, k => zeroGo r (.d x :: acc) k

/-- The value of an operation that turns nothing. p: under which guards. -/
def evP (s : St) (p : Path) (op : Op) : Option A :=
  match op with
  | .move x | .assign x => ev s p x
  | .pick (.tmp c) a b => match ev s p (.tmp c), ev s ((c, true) :: p) a, ev s ((c, false) :: p) b, b, a with
    | some (.b (.l (.d (.bool x)))), some (.b (.l (.d (.bool y)))), some _, .const (.bool false), _ => some (dl (.bool (x && y)))
    | some (.b (.l (.d (.bool x)))), some _, some (.b (.l (.d (.bool z)))), _, .const (.bool true) => some (dl (.bool (x || z)))
    | _, _, _, _, _ => Option.none
  | .fieldAddr t x f => match (T t).kd, ev s p x with
    | .struct fs, some (.b (.l x)) => match fs[f]?, x with
      | some (off, _), .ptr id o' => some (.b (.l (.ptr id (o' + off))))
      | some (off, _), .optr id i o' sz => some (.b (.l (.optr id i (o' + off) sz)))
      | some (off, _), .d (.eptr cs) => dropGo off cs fun r => some (dl (.eptr r))
      | _, _ => Option.none
    | _, _ => Option.none
  | .field t x f => match (T t).kd, ev s p x with
    | .struct fs, some (.b (.agg cs)) => match fs[f]? with
      | some (off, ft) => bif (T ft).kd.known then readL (T ft).kd.agg (T ft).size off cs else Option.none
      | Option.none => Option.none
    | _, _ => Option.none
  | .load t x => bif (T t).kd.known then (match ev s p x with
    | some (.b (.l (.ptr id off))) => match look id s.own with
      | some (.cells cs _) => readL (T t).kd.agg (T t).size off cs
      | _ => Option.none
    | some (.b (.l (.d (.eptr cs)))) => readD (T t).kd.agg (T t).size cs
    | _ => Option.none) else Option.none
  | .binOp op t x y _ => match (T t).kd, ev s p x, ev s p y with
    | .int _, some (.b (.l (.d (.int k1 a)))), some (.b (.l (.d (.int k2 b)))) =>
      match constOp op k1 a y with
      | some v => some (dl v)
      | Option.none => bif sameKind k1 k2 then (match intOp op k1 a b with
        | some v => some (dl v)
        | Option.none => Option.none) else Option.none
    | .str, some (.b (.l (.d (.str a)))), some (.b (.l (.d (.str b)))) => match strOp op a b with
      | some v => some (dl v)
      | Option.none => Option.none
    | .bool, some (.b (.l (.d (.bool a)))), some (.b (.l (.d (.bool b)))) => match op with
      | .eql => some (dl (.bool (a == b)))
      | .neq => some (dl (.bool (!(a == b))))
      | _ => Option.none
    | _, _, _ => Option.none
  | .unOp op _ x => match op, ev s p x with
    | .not, some (.b (.l (.d (.bool b)))) => some (dl (.bool (!b)))
    | .neg, some (.b (.l (.d (.int k n)))) => some (dl (.int k (k.wrap (0 - n))))
    | _, _ => Option.none
  | .convert src dst x => match (T src).kd, (T dst).kd, ev s p x with
    | .int _, .int k, some (.b (.l (.d (.int _ n)))) => some (dl (.int k (k.wrap n)))
    | .str, .str, some (.b (.l (.d (.str a)))) => some (dl (.str a))
    | _, _, _ => Option.none
  | .extract x i => match ev s p x with
    | some (.tup vs) => match vs[i]? with
      | some v => some (.b v)
      | Option.none => Option.none
    | _ => Option.none
  | .nilCheck x => match ev s p x with
    | some (.b (.l (.ptr id off))) => some (.b (.l (.ptr id off)))
    | some (.b (.l (.optr id i off sz))) => some (.b (.l (.optr id i off sz)))
    | some (.b (.l (.d (.eptr cs)))) => some (dl (.eptr cs))
    | some (.b (.l (.d (.fn f a b)))) => some (dl (.fn f a b))
    | some (.b (.l (.ofn f a b))) => some (.b (.l (.ofn f a b)))
    | _ => Option.none
  | .call { callee := .builtin .len, args := args, argTypes := ts } => match ts.toList, args.toList with
    | [t], [x] => match (T t).kd, ev s p x with
      | .str, some (.b (.l (.d (.str a)))) => some (dl (.int .i64 (a.size : Int)))
      | .slice _, some (.b (.l (.d (.seq _ es)))) => some (dl (.int .i64 (es.length : Int)))
      | .slice _, some (.b (.l (.d .nilsl))) => some (dl (.int .i64 0))
      | .slice _, some (.b (.l (.orow id))) => match look id s.own with
        | some (.row _ es) => some (dl (.int .i64 (es.length : Int)))
        | _ => Option.none
      | _, _ => Option.none
    | _, _ => Option.none
  | .build t parts => match (T t).kd with
    | .struct fs => zeroGo (T t).zero [] fun z => buildGo T fs s p (fun cs => some (.b (.agg cs))) parts.toList z
    | _ => Option.none
  | _ => Option.none

/-- An operation that turns one's own blocks, no guard standing against it. -/
def evE (s : St) (o : Oper) : Option St :=
  match o.op with
  | .alloc t => bif (T t).kd.known then (match s with
    | ⟨R, O, n, g, m, z⟩ => zeroGo (T t).zero [] fun cs => put ⟨R, (n, .cells cs t) :: O, n + 1, g, m, z⟩ o.dst [] (.b (.l (.ptr n 0)))) else Option.none
  | .box t x => match ev s [] x with
    | some v => match cellsA v, s with
      | some cs, ⟨R, O, n, g, m, z⟩ => put ⟨R, (n, .cells cs t) :: O, n + 1, g, m, z⟩ o.dst [] (.b (.l (.ptr n 0)))
      | Option.none, _ => Option.none
    | Option.none => Option.none
  | .store t x y => bif (T t).kd.known then (match ev s [] x, ev s [] y with
    | some (.b (.l (.ptr id off))), some v => match cellsA v, look id s.own, s with
      | some (x0 :: new), some (.cells cs bt), ⟨R, O, n, g, m, z⟩ => bif lenL (x0 :: new) (T t).size then writeGo off (x0 :: new) cs [] fun cs => updGo id (.cells cs bt) (fun O => match o.dst with | Option.none => some ⟨R, O, n, g, m, z⟩ | some _ => Option.none) O [] else Option.none
      | _, _, _ => Option.none
    | _, _ => Option.none) else Option.none
  | _ => Option.none

def isMove : Op → Bool
  | .move _ => true
  | _ => false

/-- a value into its slot; a bool that guards may ask for is noted. -/
def putV (s : St) (o : Oper) (p : Path) (v : A) : Option St :=
  match isMove o.op, v with
  | true, .b (.l (.d (.bool x))) => putG s o.dst p x
  | _, v => put s o.dst p v

def evOp (s : St) (p : Path) (clear : Bool) (o : Oper) : Option St :=
  match evP T s p o.op with
  | some v => putV s o p v
  | Option.none => bif clear then evE T s o else Option.none

/-- an operation with its guard. -/
def step (all : List Oper) (s : St) (o : Oper) : Option St :=
  match o.guard with
  | Option.none => evOp T s [] true o
  | some (j, b) => match all[j]? with
    | some oj => match oj.dst with
      | some t => match look t s.gv with
        | some (q, _) => bif dead s.asm ((t, b) :: q) then put s o.dst [] .undef
          else bif covers s.asm [] ((t, b) :: q) then evOp T s [] true o
          else evOp T s ((t, b) :: q) false o
        | Option.none => Option.none
      | Option.none => Option.none
    | Option.none => Option.none

inductive It where
  | c (c : Code)
  | blk (id : Nat)
  | stop (R : St → Prop)

structure Out where
  tag : Nat
  all : List Oper
  ops : List Oper
  k : List It
  s : St

/-- behind a region: what was under a guard is forgotten. -/
def clean (bad : List (Nat × Unit)) (acc : List (Nat × Path × A)) (k : List (Nat × Path × A) → Out) : List (Nat × Path × A) → Out
  | [] => back acc []
  | (d, [], v) :: r => match look d bad with
    | Option.none => clean bad ((d, [], v) :: acc) k r
    | some _ => clean bad acc k r
  | (d, _ :: _, _) :: r => clean ((d, ()) :: bad) acc k r
where
  back : List (Nat × Path × A) → List (Nat × Path × A) → Out
    | [], l => k l
    | x :: r, l => back r (x :: l)

def runL (all : List Oper) (done : St → Out) (stop : List Oper → St → Out) : List Oper → St → Out
  | [], s => done s
  | o :: r, s => match step T all s o with
    | some ⟨R, O, n, g, m, z⟩ => runL all done stop r ⟨R, O, n, g, m, z⟩
    | Option.none => stop (o :: r) s

/-- out to the block that is left. -/
def leave (id : Nat) : List It → Option (List It)
  | [] => Option.none
  | .blk j :: k => bif Nat.beq j id then some k else leave id k
  | .c _ :: k => leave id k
  | .stop _ :: k => leave id k

/-- On as far as nothing needs to be shown. tag 1: the end; 2: return; 3: an operation; 4: a piece of code; 5: an exit out of all that is known here; 0: no more rounds. -/
def exec : Nat → List It → St → Out
  | 0, k, s => ⟨0, [], [], k, s⟩
  | _ + 1, [], s => ⟨1, [], [], [], s⟩
  | n + 1, .blk _ :: k, s => exec n k s
  | _ + 1, .stop R :: k, s => ⟨6, [], [], .stop R :: k, s⟩
  | n + 1, .c c :: k, s => match c with
    | .seq a b => exec n (.c a :: .c b :: k) s
    | .skip => exec n k s
    | .ret => ⟨2, [], [], [], s⟩
    | .block id a => exec n (.c a :: .blk id :: k) s
    | .exit id => match leave id k with
      | some k' => exec n k' s
      | Option.none => ⟨5, [], [], [.c c], s⟩
    | .region _ ops false => runL T ops.toList (fun s => match s with
        | ⟨R, O, m, _, _, z⟩ => clean [] [] (fun R => exec n k ⟨R, O, m, [], [], z⟩) R) (fun r s => ⟨3, ops.toList, r, k, s⟩) ops.toList s
    | _ => ⟨4, [], [], .c c :: k, s⟩

/-- On from within a region. -/
def resume (n : Nat) (all r : List Oper) (k : List It) (s : St) : Out :=
  runL T all (fun s => match s with
    | ⟨R, O, m, _, _, z⟩ => clean [] [] (fun R => exec T n k ⟨R, O, m, [], [], z⟩) R) (fun r s => ⟨3, all, r, k, s⟩) r s

end Go.Cel

set_option linter.unusedVariables false
namespace Go.Cel

def All2 {α β : Type} (R : α → β → Prop) : List α → List β → Prop
  | [], [] => True
  | a :: as, b :: bs => R a b ∧ All2 R as bs
  | _, _ => False

section All2
variable {α β : Type} {R S : α → β → Prop}
theorem All2.length : ∀ {l : List α} {m : List β}, All2 R l m → l.length = m.length
  | [], [], _ => rfl
  | _ :: _, _ :: _, h => by simp [All2.length h.2]
  | [], _ :: _, h => h.elim
  | _ :: _, [], h => h.elim
theorem All2.imp (f : ∀ a b, R a b → S a b) : ∀ {l : List α} {m : List β}, All2 R l m → All2 S l m
  | [], [], _ => trivial
  | _ :: _, _ :: _, h => ⟨f _ _ h.1, All2.imp f h.2⟩
  | [], _ :: _, h => h.elim
  | _ :: _, [], h => h.elim
theorem All2.get : ∀ {l : List α} {m : List β} {i : Nat} {a : α}, All2 R l m → l[i]? = some a → ∃ b, m[i]? = some b ∧ R a b
  | x :: _, y :: _, 0, a, h, e => ⟨y, rfl, by simp at e; exact e ▸ h.1⟩
  | _ :: _, _ :: _, i + 1, a, h, e => by simp at e ⊢; exact All2.get h.2 e
  | [], [], _, _, _, e => by simp at e
  | [], _ :: _, _, _, h, _ => h.elim
  | _ :: _, [], _, _, h, _ => h.elim
theorem All2.append : ∀ {l l' : List α} {m m' : List β}, All2 R l m → All2 R l' m' → All2 R (l ++ l') (m ++ m')
  | [], _, [], _, _, h => h
  | _ :: _, _, _ :: _, _, h, h' => ⟨h.1, All2.append h.2 h'⟩
  | [], _, _ :: _, _, h, _ => h.elim
  | _ :: _, _, [], _, h, _ => h.elim
theorem All2.reverse : ∀ {l : List α} {m : List β}, All2 R l m → All2 R l.reverse m.reverse
  | [], [], _ => trivial
  | _ :: _, _ :: _, h => by
    simp only [List.reverse_cons]
    exact All2.append (All2.reverse h.2) ⟨h.1, trivial⟩
  | [], _ :: _, h => h.elim
  | _ :: _, [], h => h.elim
theorem All2.drop : ∀ {l : List α} {m : List β} (n : Nat), All2 R l m → All2 R (l.drop n) (m.drop n)
  | _, _, 0, h => by simpa using h
  | [], [], _ + 1, _ => trivial
  | _ :: _, _ :: _, n + 1, h => by simpa using All2.drop n h.2
  | [], _ :: _, _ + 1, h => h.elim
  | _ :: _, [], _ + 1, h => h.elim
theorem All2.take : ∀ {l : List α} {m : List β} (n : Nat), All2 R l m → All2 R (l.take n) (m.take n)
  | _, _, 0, h => by simp [All2]
  | [], [], _ + 1, _ => trivial
  | _ :: _, _ :: _, n + 1, h => by simpa using ⟨h.1, All2.take n h.2⟩
  | [], _ :: _, _ + 1, h => h.elim
  | _ :: _, [], _ + 1, h => h.elim
theorem All2.map {γ : Type} {f : γ → α} : ∀ {l : List γ} {m : List β}, All2 (fun a b => R (f a) b) l m → All2 R (l.map f) m
  | [], [], _ => trivial
  | _ :: _, _ :: _, h => ⟨h.1, All2.map h.2⟩
  | [], _ :: _, h => h.elim
  | _ :: _, [], h => h.elim
theorem All2.of_get : ∀ {l : List α} {m : List β}, l.length = m.length → (∀ (i : Nat) (a : α) (b : β), l[i]? = some a → m[i]? = some b → R a b) → All2 R l m
  | [], [], _, _ => trivial
  | x :: l, y :: m, hl, h => ⟨h 0 x y rfl rfl, All2.of_get (by simpa using hl) fun i a b ha hb => h (i + 1) a b (by simpa using ha) (by simpa using hb)⟩
  | [], _ :: _, hl, _ => by simp at hl
  | _ :: _, [], hl, _ => by simp at hl
end All2

/-- Memory that no one turns any more. -/
abbrev Imm := Nat → Option Obj

def Imm.cell (M : Imm) (a : Addr) : Option Value :=
  match M a.block with
  | some (.cells c _ _) => if a.spot.isSome then Option.none else c[a.off]?
  | _ => Option.none

def Imm.le (M M' : Imm) : Prop := ∀ b o, M b = some o → M' b = some o
theorem Imm.le.refl (M : Imm) : M.le M := fun _ _ h => h
theorem Imm.le.trans {M M' M'' : Imm} (h : M.le M') (h' : M'.le M'') : M.le M'' := fun b o e => h' b o (h b o e)
theorem Imm.le.cell {M M' : Imm} (h : M.le M') {a : Addr} {v : Value} (e : M.cell a = some v) : M'.cell a = some v := by
  unfold Imm.cell at *
  cases hb : M a.block with
  | none => simp [hb] at e
  | some o => rw [h _ _ hb]; simpa [hb] using e
theorem Imm.cell_world {M : Imm} {W : World} (h : ∀ b o, M b = some o → W.heap[b]? = some o) {a : Addr} {v : Value} (e : M.cell a = some v) : W.cell? a = some v := by
  unfold Imm.cell at e
  unfold World.cell?
  cases hb : M a.block with
  | none => simp [hb] at e
  | some o =>
    rw [h _ _ hb]
    rw [hb] at e
    cases o <;> first | exact e | (simp at e)

/-- 2^47: so many bytes a slice has at the most. -/
def room : Nat := 140737488355328

inductive DenD (P : Program) (M : Imm) : D → Value → Prop where
  | int (k : IntKind) (n : Int) : DenD P M (.int k n) (.int k n)
  | bool (b : Bool) : DenD P M (.bool b) (.bool b)
  | str (s : ByteArray) : DenD P M (.str s) (.string s)
  | nilsl : DenD P M .nilsl (.slice none 0 0)
  | seq0 (t : TypeId) (A : Option Addr) (c : Nat) : DenD P M (.seq t []) (.slice A 0 c)
  | seq (t : TypeId) (es : List (List D)) (ad : Addr) (c : Nat) (f : Nat → Nat → Value) (hc : es.length ≤ c) (hcm : c ≤ maxLen) (hb : es.length * P.bytesOf t ≤ room)
      (hsz : ∀ (i : Nat) (cs : List D), es[i]? = some cs → cs.length = P.cellsOf t)
      (hcell : ∀ (i : Nat) (cs : List D) (j : Nat) (x : D), es[i]? = some cs → cs[j]? = some x → M.cell (ad.add (i * P.cellsOf t + j)) = some (f i j))
      (hden : ∀ (i : Nat) (cs : List D) (j : Nat) (x : D), es[i]? = some cs → cs[j]? = some x → DenD P M x (f i j)) : DenD P M (.seq t es) (.slice (some ad) es.length c)
  | cut0 (t : TypeId) (A : Option Addr) : DenD P M (.cutsl t []) (.slice A 0 0)
  | cut (t : TypeId) (es : List (List D)) (ad : Addr) (f : Nat → Nat → Value) (hcm : es.length ≤ maxLen) (hb : es.length * P.bytesOf t ≤ room)
      (hsz : ∀ (i : Nat) (cs : List D), es[i]? = some cs → cs.length = P.cellsOf t)
      (hcell : ∀ (i : Nat) (cs : List D) (j : Nat) (x : D), es[i]? = some cs → cs[j]? = some x → M.cell (ad.add (i * P.cellsOf t + j)) = some (f i j))
      (hden : ∀ (i : Nat) (cs : List D) (j : Nat) (x : D), es[i]? = some cs → cs[j]? = some x → DenD P M x (f i j)) : DenD P M (.cutsl t es) (.slice (some ad) es.length es.length)
  | eptr (cs : List D) (ad : Addr) (f : Nat → Value)
      (hcell : ∀ (j : Nat) (x : D), cs[j]? = some x → M.cell (ad.add j) = some (f j))
      (hden : ∀ (j : Nat) (x : D), cs[j]? = some x → DenD P M x (f j)) : DenD P M (.eptr cs) (.pointer (some ad))
  | nilp : DenD P M .nilp (.pointer none)
  | nilfn : DenD P M .nilfn .nilFunc
  | nilmap : DenD P M .nilmap (.map none)
  | nilif : DenD P M .nilif .nilIface
  | fn (f : FuncId) (first caps : List D) (xs ys : List Value) (hx : xs.length = first.length) (hy : ys.length = caps.length)
      (g h : Nat → Value) (hg : ∀ (i : Nat) (x : D), first[i]? = some x → xs[i]? = some (g i)) (hh : ∀ (i : Nat) (x : D), caps[i]? = some x → ys[i]? = some (h i))
      (dg : ∀ (i : Nat) (x : D), first[i]? = some x → DenD P M x (g i)) (dh : ∀ (i : Nat) (x : D), caps[i]? = some x → DenD P M x (h i)) :
      DenD P M (.fn f first caps) (.func (.func f) xs.toArray ys.toArray)
  | mfn (f : FuncId) (recv : List D) (xs : List Value) (hx : xs.length = recv.length) (g : Nat → Value) (hg : ∀ (i : Nat) (x : D), recv[i]? = some x → xs[i]? = some (g i)) (dg : ∀ (i : Nat) (x : D), recv[i]? = some x → DenD P M x (g i)) :
      DenD P M (.mfn f recv) (.func (.func f) #[.agg xs.toArray] #[])

theorem DenD.mono {P : Program} {M M' : Imm} (h : M.le M') {x : D} {v : Value} (d : DenD P M x v) : DenD P M' x v := by
  induction d with
  | int k n => exact .int k n
  | bool b => exact .bool b
  | str s => exact .str s
  | nilsl => exact .nilsl
  | seq0 t A c => exact .seq0 t A c
  | seq t es ad c f hc hcm hb hsz hcell hden ih => exact .seq t es ad c f hc hcm hb hsz (fun i cs j x e e' => h.cell (hcell i cs j x e e')) ih
  | cut0 t A => exact .cut0 t A
  | cut t es ad f hcm hb hsz hcell hden ih => exact .cut t es ad f hcm hb hsz (fun i cs j x e e' => h.cell (hcell i cs j x e e')) ih
  | eptr cs ad f hcell hden ih => exact .eptr cs ad f (fun j x e => h.cell (hcell j x e)) ih
  | nilp => exact .nilp
  | nilfn => exact .nilfn
  | nilmap => exact .nilmap
  | nilif => exact .nilif
  | fn f first caps xs ys hx hy g k hg hh dg dh ih1 ih2 => exact .fn f first caps xs ys hx hy g k hg hh ih1 ih2
  | mfn f recv xs hx g hg dg ih => exact .mfn f recv xs hx g hg ih

/-- y says no more than x. -/
inductive Wk : D → D → Prop where
  | refl (x : D) : Wk x x
  | nil (t : TypeId) : Wk .nilsl (.seq t [])
  | nilcut (t : TypeId) : Wk .nilsl (.cutsl t [])
  | uncut (t : TypeId) (es : List (List D)) : Wk (.cutsl t es) (.seq t es)
  | seq (t : TypeId) (es es' : List (List D)) (hl : es.length = es'.length) (hc : ∀ (i : Nat) (cs cs' : List D), es[i]? = some cs → es'[i]? = some cs' → cs.length = cs'.length)
      (h : ∀ (i j : Nat) (cs cs' : List D) (x x' : D), es[i]? = some cs → es'[i]? = some cs' → cs[j]? = some x → cs'[j]? = some x' → Wk x x') : Wk (.seq t es) (.seq t es')

theorem get_of_len {α β : Type} {l : List α} {m : List β} {i : Nat} {y : β} (hl : l.length = m.length) (h : m[i]? = some y) : ∃ x, l[i]? = some x := by
  have : i < l.length := by rw [hl]; exact (List.getElem?_eq_some_iff.1 h).1
  exact ⟨_, List.getElem?_eq_getElem this⟩

theorem Wk.den {P : Program} {M : Imm} {x y : D} (h : Wk x y) : ∀ {v : Value}, DenD P M x v → DenD P M y v := by
  induction h with
  | refl x => intro v d; exact d
  | nil t => intro v d; cases d; exact .seq0 t none 0
  | nilcut t => intro v d; cases d; exact .cut0 t none
  | uncut t es =>
    intro v d
    cases d with
    | cut0 _ A => exact .seq0 t A 0
    | cut _ _ ad f h1 h2 h3 h4 h5 => exact .seq t es ad es.length f (Nat.le_refl _) h1 h2 h3 h4 h5
  | seq t es es' hl hc h ih =>
    intro v d
    cases d with
    | seq0 _ A c =>
      have : es' = [] := List.eq_nil_of_length_eq_zero (by simpa using hl.symm)
      subst this
      exact .seq0 t A c
    | seq _ _ ad c f h1 h2 h3 h4 h5 h6 =>
      rw [hl] at h1 h3 ⊢
      refine .seq t es' ad c f h1 h2 h3 (fun i cs' e => ?_) (fun i cs' j x' e e' => ?_) (fun i cs' j x' e e' => ?_)
      · obtain ⟨cs, hcs⟩ := get_of_len hl e
        rw [← hc i cs cs' hcs e]; exact h4 i cs hcs
      · obtain ⟨cs, hcs⟩ := get_of_len hl e
        obtain ⟨x, hx⟩ := get_of_len (hc i cs cs' hcs e) e'
        exact h5 i cs j x hcs hx
      · obtain ⟨cs, hcs⟩ := get_of_len hl e
        obtain ⟨x, hx⟩ := get_of_len (hc i cs cs' hcs e) e'
        exact ih i j cs cs' x x' hcs e hx e' (h6 i cs j x hcs hx)

abbrev Rho := Nat → Option Value
def Rho.le (ρ ρ' : Rho) : Prop := ∀ i v, ρ i = some v → ρ' i = some v
theorem Rho.le.refl (ρ : Rho) : ρ.le ρ := fun _ _ h => h
theorem Rho.le.trans {ρ ρ' ρ'' : Rho} (h : ρ.le ρ') (h' : ρ'.le ρ'') : ρ.le ρ'' := fun b o e => h' b o (h b o e)

def DenC (P : Program) (ρ : Rho) (M : Imm) : C → Value → Prop
  | .d x, v => DenD P M x v
  | .ptr id off, v => ∃ g, ρ id = some (.pointer (some ⟨g, 0, none⟩)) ∧ v = .pointer (some ⟨g, off, none⟩)

def DenL (P : Program) (ρ : Rho) (M : Imm) : L → Value → Prop
  | .d x, v => DenD P M x v
  | .ptr id off, v => ∃ g, ρ id = some (.pointer (some ⟨g, 0, none⟩)) ∧ v = .pointer (some ⟨g, off, none⟩)
  | .orow id, v => ρ id = some v ∧ ∃ A n c, v = .slice A n c
  | .optr id i off sz, v => ∃ g n c, ρ id = some (.slice (some ⟨g, 0, none⟩) n c) ∧ v = .pointer (some ⟨g, i * sz + off, none⟩)
  | .osl id lo hi sz, v => ∃ A n c ad, ρ id = some (.slice A n c) ∧ lo ≤ hi ∧ hi ≤ c ∧ ((0 < lo ∧ c = lo) ∨ ad = A.map fun b => b.add (lo * sz)) ∧ v = .slice ad (hi - lo) (c - lo)
  | .omap id, v => ρ id = some v ∧ ∃ g, v = .map (some g)
  | .ofn f first caps, v => ∃ xs ys, v = .func (.func f) (List.toArray xs) (List.toArray ys) ∧ All2 (DenC P ρ M) first xs ∧ All2 (DenC P ρ M) caps ys

def DenB (P : Program) (ρ : Rho) (M : Imm) : B → Value → Prop
  | .l x, v => DenL P ρ M x v
  | .agg cs, v => ∃ vs, v = .agg (List.toArray vs) ∧ All2 (DenL P ρ M) cs vs

def DenA (P : Program) (ρ : Rho) (M : Imm) : A → Value → Prop
  | .b x, v => DenB P ρ M x v
  | .tup bs, v => ∃ vs, v = .tuple (List.toArray vs) ∧ All2 (DenB P ρ M) bs vs
  | .undef, v => v = Go.undef

section mono
variable {P : Program} {ρ ρ' : Rho} {M M' : Imm} (hr : ρ.le ρ') (hM : M.le M')
include hr hM
theorem DenC.mono {x : C} {v : Value} (h : DenC P ρ M x v) : DenC P ρ' M' x v := by
  cases x with
  | d x => exact DenD.mono hM h
  | ptr id off => obtain ⟨g, h1, h2⟩ := h; exact ⟨g, hr _ _ h1, h2⟩
theorem DenL.mono {x : L} {v : Value} (h : DenL P ρ M x v) : DenL P ρ' M' x v := by
  cases x with
  | d x => exact DenD.mono hM h
  | ptr id off => obtain ⟨g, h1, h2⟩ := h; exact ⟨g, hr _ _ h1, h2⟩
  | orow id => exact ⟨hr _ _ h.1, h.2⟩
  | optr id i off sz => obtain ⟨g, n, c, h1, h2⟩ := h; exact ⟨g, n, c, hr _ _ h1, h2⟩
  | osl id lo hi sz => obtain ⟨A, n, c, ad, h1, h2⟩ := h; exact ⟨A, n, c, ad, hr _ _ h1, h2⟩
  | omap id => exact ⟨hr _ _ h.1, h.2⟩
  | ofn f a b =>
    obtain ⟨xs, ys, h1, h2, h3⟩ := h
    exact ⟨xs, ys, h1, All2.imp (fun _ _ q => DenC.mono hr hM q) h2, All2.imp (fun _ _ q => DenC.mono hr hM q) h3⟩
theorem DenB.mono {x : B} {v : Value} (h : DenB P ρ M x v) : DenB P ρ' M' x v := by
  cases x with
  | l x => exact DenL.mono hr hM h
  | agg cs => obtain ⟨vs, h1, h2⟩ := h; exact ⟨vs, h1, All2.imp (fun _ _ q => DenL.mono hr hM q) h2⟩
theorem DenA.mono {x : A} {v : Value} (h : DenA P ρ M x v) : DenA P ρ' M' x v := by
  cases x with
  | b x => exact DenB.mono hr hM h
  | tup cs => obtain ⟨vs, h1, h2⟩ := h; exact ⟨vs, h1, All2.imp (fun _ _ q => DenB.mono hr hM q) h2⟩
  | undef => exact h
end mono

inductive WkL : L → L → Prop where
  | refl (x : L) : WkL x x
  | d {x y : D} (h : Wk x y) : WkL (.d x) (.d y)
def WkLs : List L → List L → Prop
  | [], [] => True
  | x :: r, y :: q => WkL x y ∧ WkLs r q
  | _, _ => False
inductive WkB : B → B → Prop where
  | refl (x : B) : WkB x x
  | l {x y : L} (h : WkL x y) : WkB (.l x) (.l y)
  | agg {cs ds : List L} (h : WkLs cs ds) : WkB (.agg cs) (.agg ds)
def WkBs : List B → List B → Prop
  | [], [] => True
  | x :: r, y :: q => WkB x y ∧ WkBs r q
  | _, _ => False
inductive WkA : A → A → Prop where
  | refl (x : A) : WkA x x
  | b {x y : B} (h : WkB x y) : WkA (.b x) (.b y)
  | tup {cs ds : List B} (h : WkBs cs ds) : WkA (.tup cs) (.tup ds)

section weak
variable {P : Program} {ρ : Rho} {M : Imm}
theorem WkL.den {x y : L} (h : WkL x y) {v : Value} (d : DenL P ρ M x v) : DenL P ρ M y v := by
  cases h with
  | refl => exact d
  | d h => exact h.den d
theorem WkLs.den : ∀ {x y : List L}, WkLs x y → ∀ {v : List Value}, All2 (DenL P ρ M) x v → All2 (DenL P ρ M) y v
  | [], [], _, _, d => d
  | _ :: _, _ :: _, h, _ :: _, d => ⟨h.1.den d.1, WkLs.den h.2 d.2⟩
  | _ :: _, _ :: _, _, [], d => d.elim
  | [], _ :: _, h, _, _ => h.elim
  | _ :: _, [], h, _, _ => h.elim
theorem WkB.den {x y : B} (h : WkB x y) {v : Value} (d : DenB P ρ M x v) : DenB P ρ M y v := by
  cases h with
  | refl => exact d
  | l h => exact h.den d
  | agg h => obtain ⟨vs, h1, h2⟩ := d; exact ⟨vs, h1, h.den h2⟩
theorem WkBs.den : ∀ {x y : List B}, WkBs x y → ∀ {v : List Value}, All2 (DenB P ρ M) x v → All2 (DenB P ρ M) y v
  | [], [], _, _, d => d
  | _ :: _, _ :: _, h, _ :: _, d => ⟨h.1.den d.1, WkBs.den h.2 d.2⟩
  | _ :: _, _ :: _, _, [], d => d.elim
  | [], _ :: _, h, _, _ => h.elim
  | _ :: _, [], h, _, _ => h.elim
theorem WkA.den {x y : A} (h : WkA x y) {v : Value} (d : DenA P ρ M x v) : DenA P ρ M y v := by
  cases h with
  | refl => exact d
  | b h => exact h.den d
  | tup h => obtain ⟨vs, h1, h2⟩ := d; exact ⟨vs, h1, h.den h2⟩
end weak

theorem DenD.one {P : Program} {M : Imm} {x : D} {v : Value} (h : DenD P M x v) : v.oneCell' = true := by
  cases h <;> rfl
theorem DenL.one {P : Program} {ρ : Rho} {M : Imm} {x : L} {v : Value} (h : DenL P ρ M x v) : v.oneCell' = true := by
  cases x with
  | d x => exact DenD.one h
  | ptr => obtain ⟨_, _, rfl⟩ := h; rfl
  | orow => obtain ⟨_, _, _, _, rfl⟩ := h; rfl
  | optr => obtain ⟨_, _, _, _, rfl⟩ := h; rfl
  | osl => obtain ⟨_, _, _, _, _, _, _, _, rfl⟩ := h; rfl
  | omap => obtain ⟨_, _, rfl⟩ := h; rfl
  | ofn => obtain ⟨_, _, rfl, _⟩ := h; rfl
theorem All2.one {P : Program} {ρ : Rho} {M : Imm} : ∀ {cs : List L} {vs : List Value}, All2 (DenL P ρ M) cs vs → ∀ v ∈ vs, v.oneCell' = true
  | [], [], _, v, h => by simp at h
  | _ :: _, _ :: _, h, v, hv => by
    rcases List.mem_cons.1 hv with rfl | hv
    · exact DenL.one h.1
    · exact All2.one h.2 v hv
  | [], _ :: _, h, _, _ => h.elim
  | _ :: _, [], h, _, _ => h.elim

/-- A row's elements, as its cells hold them. -/
def RowRep (P : Program) (M : Imm) (sz : Nat) (es : List (List D)) (xs : List Value) : Prop :=
  xs.length = es.length * sz ∧ ∀ (i : Nat) (cs : List D), es[i]? = some cs → cs.length = sz ∧ ∀ (j : Nat) (x : D), cs[j]? = some x → ∃ u, xs[i * sz + j]? = some u ∧ DenD P M x u

/-- The same, where some elements are not known. -/
def SpreadRep (P : Program) (M : Imm) (sz : Nat) (es : List (Option (List D))) (cur : List Value) : Prop :=
  ∀ (i : Nat) (cs : List D), es[i]? = some (some cs) → cs.length = sz ∧ ∀ (j : Nat) (x : D), cs[j]? = some x → ∃ u, cur[i * sz + j]? = some u ∧ DenD P M x u

/-- The same, where one element holds ways to other blocks. -/
def RowpRep (P : Program) (ρ : Rho) (M : Imm) (sz : Nat) (es : List (List D)) (n : Nat) (ls : List L) (xs : List Value) : Prop :=
  xs.length = es.length * sz ∧ n < es.length ∧ ls.length = sz ∧ (∀ (i : Nat) (cs : List D), i ≠ n → es[i]? = some cs → cs.length = sz ∧ ∀ (j : Nat) (x : D), cs[j]? = some x → ∃ u, xs[i * sz + j]? = some u ∧ DenD P M x u) ∧
    All2 (DenL P ρ M) ls ((xs.drop (n * sz)).take sz)
theorem RowpRep.to {P : Program} {ρ ρ' : Rho} {M : Imm} {sz n : Nat} {es : List (List D)} {ls ls' : List L} {xs : List Value} (h : RowpRep P ρ M sz es n ls xs) (hf : ∀ vs, All2 (DenL P ρ M) ls vs → All2 (DenL P ρ' M) ls' vs) : RowpRep P ρ' M sz es n ls' xs := by
  have h1 := hf _ h.2.2.2.2
  refine ⟨h.1, h.2.1, ?_, h.2.2.2.1, h1⟩
  have h2 := All2.length h1
  have h3 := All2.length h.2.2.2.2
  rw [h2, ← h3]; exact h.2.2.1

def noRho : Rho := fun _ => none
/-- A map's entries. -/
def MapRep (P : Program) (M : Imm) (m : List (B × B)) (es : List MapEntry) : Prop :=
  All2 (fun (q : B × B) (e : MapEntry) => DenB P noRho M q.1 e.key ∧ DenB P noRho M q.2 e.val) m es

/-- What a block of one's own holds. -/
def BlkOK (P : Program) (ρ : Rho) (M : Imm) (W : World) (id : Nat) : Blk → Prop
  | .cells cs t => ∃ g vs, ρ id = some (.pointer (some ⟨g, 0, none⟩)) ∧ W.heap[g]? = some (.cells (List.toArray vs) t (0, 0)) ∧ All2 (DenL P ρ M) cs vs
  | .row t es => ∃ v xs, ρ id = some v ∧ W.ownsRow 0 t (P.cellsOf t) v es.length xs ∧ RowRep P M (P.cellsOf t) es xs ∧ es.length * P.bytesOf t ≤ room
  | .spread t es => (ρ id = some (.slice none 0 0) ∧ es = []) ∨ ∃ g n cur, ρ id = some (.slice (some ⟨g, 0, none⟩) n es.length) ∧ W.heap[g]? = some (.cells cur t (0, 0)) ∧ es.length ≤ maxLen ∧ cur.size = es.length * P.cellsOf t ∧ SpreadRep P M (P.cellsOf t) es cur.toList
  | .rowp t es i cs => ∃ v xs, ρ id = some v ∧ W.ownsRow 0 t (P.cellsOf t) v es.length xs ∧ RowpRep P ρ M (P.cellsOf t) es i cs xs ∧ es.length * P.bytesOf t ≤ room
  | .map t m => ∃ g es clock, ρ id = some (.map (some g)) ∧ W.heap[g]? = some (.map es clock) ∧ MapRep P M m es.toList

/-- The number of a block. -/
def gOf : Value → Option Nat
  | .pointer (some a) => some a.block
  | .slice (some a) _ _ => some a.block
  | .map (some g) => some g
  | _ => none

/-- Where a call began: its world, which blocks were handed over to it, what none turns, and the names of blocks that there were. -/
structure Ctx where
  W0 : World
  K : Nat → Prop
  M0 : Imm
  ρ0 : Rho
  n0 : Nat

/-- A call at work has put off calls, too. -/
structure CtxD extends Ctx where
  ds : List Deferred
  /-- another end that is as good. -/
  F : Exit → Act → World → Prop := fun _ _ _ => False

/-- Does a path hold? -/
def holds (gv : List (Nat × Path × Bool)) (p : Path) : Prop := ∀ t b, (t, b) ∈ p → ∃ q x, look t gv = some (q, x) ∧ x = b

/-- The memory's side of a state. -/
structure Mem (P : Program) (X : Ctx) (ρ : Rho) (M : Imm) (O : List (Nat × Blk)) (nx : Nat) (W : World) : Prop where
  os : W.os = X.W0.os
  tape : W.tape = X.W0.tape
  output : W.output = X.W0.output
  size : X.W0.heap.size ≤ W.heap.size
  old : ∀ b, b < X.W0.heap.size → ¬ X.K b → W.heap[b]? = X.W0.heap[b]?
  imm : ∀ b o, M b = some o → W.heap[b]? = some o
  mono : X.M0.le M
  newM : ∀ b o, M b = some o → X.M0 b = some o ∨ X.K b ∨ X.W0.heap.size ≤ b
  rle : X.ρ0.le ρ
  nle : X.n0 ≤ nx
  rfr : ∀ id, X.n0 ≤ id → X.ρ0 id = none
  fresh : ∀ id, nx ≤ id → ρ id = none
  own : ∀ id b, (id, b) ∈ O → BlkOK P ρ M W id b
  mine : ∀ id b v g, (id, b) ∈ O → ρ id = some v → gOf v = some g → M g = none ∧ (X.K g ∨ X.W0.heap.size ≤ g)
  dist : ∀ id b id' b' v v' g, (id, b) ∈ O → (id', b') ∈ O → ρ id = some v → ρ id' = some v' → gOf v = some g → gOf v' = some g → id = id' ∧ b = b'

structure Gam (P : Program) (X : CtxD) (ρ : Rho) (M : Imm) (s : St) (a : Act) (W : World) : Prop extends Mem P X.toCtx ρ M s.own s.nx W where
  regs : ∀ k p v, look k s.regs = some (p, v) → ∃ x, a.tmps[k]? = some x ∧ (holds s.gv p → DenA P ρ M v x) ∧ (¬ holds s.gv p → x = Go.undef)
  wfr : ∀ k p v, (k, p, v) ∈ s.regs → ∀ t b, (t, b) ∈ p → look t s.gv ≠ none
  gv : ∀ k q x, look k s.gv = some (q, x) → ∃ y, a.tmps[k]? = some y ∧ (holds s.gv q → y = .bool x) ∧ (¬ holds s.gv q → y = Go.undef)
  wfg : ∀ k q x, (k, q, x) ∈ s.gv → ∀ t b, (t, b) ∈ q → look t s.gv ≠ none
  asm : holds s.gv s.asm
  defers : a.defers = X.ds
  sz : a.tmps.size = s.sz

end Go.Cel

set_option linter.unusedVariables false
set_option linter.unusedSimpArgs false
namespace Go.Cel

theorem look_cons {α : Type} (k j : Nat) (v : α) (r : List (Nat × α)) : look k ((j, v) :: r) = if j = k then some v else look k r := by
  by_cases h : j = k
  · subst h; simp [look]
  · have h' : Nat.beq j k = false := by
      cases hb : Nat.beq j k with
      | false => rfl
      | true => exact absurd (Nat.eq_of_beq_eq_true hb) h
    simp [look, h', h]
theorem look_mem {α : Type} {k : Nat} {v : α} : ∀ {l : List (Nat × α)}, look k l = some v → (k, v) ∈ l
  | [], h => by simp [look] at h
  | (j, u) :: r, h => by
    rw [look_cons] at h
    by_cases e : j = k
    · simp [e] at h; subst h; subst e; exact List.mem_cons_self
    · simp [e] at h; exact List.mem_cons_of_mem _ (look_mem h)
theorem beqB_eq {a b : Bool} (h : beqB a b = true) : a = b := by cases a <;> cases b <;> simp_all [beqB]
theorem memG_mem {t : Nat} {b : Bool} : ∀ {p : Path}, memG t b p = true → (t, b) ∈ p
  | [], h => by simp [memG] at h
  | (u, c) :: r, h => by
    simp only [memG] at h
    cases hc : Nat.beq u t && beqB c b with
    | true =>
      simp only [Bool.and_eq_true] at hc
      rw [Nat.eq_of_beq_eq_true hc.1, beqB_eq hc.2]
      exact List.mem_cons_self
    | false => simp only [hc, cond_false] at h; exact List.mem_cons_of_mem _ (memG_mem h)
theorem covers_mem {asm p : Path} : ∀ {q : Path}, covers asm p q = true → ∀ t b, (t, b) ∈ q → (t, b) ∈ asm ∨ (t, b) ∈ p
  | [], _, _, _, hm => by simp at hm
  | (u, c) :: r, h, t, b, hm => by
    simp only [covers, Bool.and_eq_true, Bool.or_eq_true] at h
    rcases List.mem_cons.1 hm with e | hm
    · cases e; exact h.1.imp memG_mem memG_mem
    · exact covers_mem h.2 t b hm
theorem holds_covers {gv : List (Nat × Path × Bool)} {asm p q : Path} (h : covers asm p q = true) (ha : holds gv asm) (hp : holds gv p) : holds gv q :=
  fun t b hm => (covers_mem h t b hm).elim (ha t b) (hp t b)

variable {P : Program} {X : CtxD} {ρ : Rho} {M : Imm} {s : St} {a : Act} {W : World} {p : Path}

theorem cvalV_den {v : Value} {x : D} (h : cvalV v = some x) : DenD P M x v := by
  unfold cvalV at h
  split at h <;> simp at h <;> subst h
  · exact .int _ _
  · exact .bool _
  · exact .str _
  · exact .nilsl
  · exact .nilp
  · exact .nilfn
  · exact .nilmap
  · exact .nilif

theorem reg_eval {k : Nat} {x : Value} (h : a.tmps[k]? = some x) : a.eval (.tmp k) = x := by
  simp [Act.eval, Array.getD_eq_getD_getElem?, h]

theorem ev_den {o : Operand} {v : A} (h : ev s p o = some v) (g : Gam P X ρ M s a W) (hp : holds s.gv p) : DenA P ρ M v (a.eval o) := by
  cases o with
  | tmp t =>
    simp only [ev] at h
    split at h
    · rename_i q u hl
      cases hc : covers s.asm p q with
      | false => simp [hc] at h
      | true =>
        simp [hc] at h; subst h
        obtain ⟨x, hx, h1, _⟩ := g.regs _ _ _ hl
        rw [reg_eval hx]
        exact h1 (holds_covers hc g.asm hp)
    · simp at h
  | const c =>
    simp only [ev] at h
    split at h
    · rename_i x hx; simp at h; subst h; exact cvalV_den hx
    · simp at h
  | func f =>
    simp only [ev] at h
    simp at h; subst h
    exact DenD.fn f [] [] [] [] rfl rfl (fun _ => Go.undef) (fun _ => Go.undef) (by simp) (by simp) (by simp) (by simp)
  | global _ => simp [ev] at h

/-- An operand of a pick, under the choice. -/
theorem ev_pick {c : Nat} {b : Bool} {o : Operand} {v : A} (h : ev s ((c, b) :: p) o = some v) (g : Gam P X ρ M s a W) (hp : holds s.gv p) (hc : a.eval (.tmp c) = .bool b) : DenA P ρ M v (a.eval o) := by
  cases hl : look c s.gv with
  | some qx =>
    obtain ⟨q, x⟩ := qx
    refine ev_den h g ?_
    intro t b' hm
    rcases List.mem_cons.1 hm with e | hm
    · cases e
      refine ⟨q, x, hl, ?_⟩
      obtain ⟨y, hy, h1, h2⟩ := g.gv _ _ _ hl
      have he := reg_eval hy
      rw [hc] at he
      by_cases hq : holds s.gv q
      · have := h1 hq; rw [this] at he; simpa using he.symm
      · have := h2 hq; rw [this] at he; exact absurd he (by simp [Go.undef])
    · exact hp t b' hm
  | none =>
    cases o with
    | tmp t =>
      simp only [ev] at h
      split at h
      · rename_i q u hlr
        cases hcv : covers s.asm ((c, b) :: p) q with
        | false => simp [hcv] at h
        | true =>
          simp [hcv] at h; subst h
          obtain ⟨x, hx, h1, _⟩ := g.regs _ _ _ hlr
          rw [reg_eval hx]
          refine h1 fun t' b' hm => ?_
          rcases covers_mem hcv t' b' hm with h' | h'
          · exact g.asm _ _ h'
          · rcases List.mem_cons.1 h' with e | h'
            · cases e
              exact absurd hl (g.wfr _ _ _ (look_mem hlr) _ _ hm)
            · exact hp _ _ h'
      · simp at h
    | const c =>
      exact ev_den (p := p) (by simpa [ev] using h) g hp
    | func f => exact ev_den (p := p) (by simpa [ev] using h) g hp
    | global _ => simp [ev] at h

/-! The table of types. -/
def kdOK (P : Program) (t : TypeId) : Kd → Prop
  | .int k => P.underlying t = some (.int k)
  | .bool => P.underlying t = some .bool
  | .str => P.underlying t = some .string
  | .slice e => P.underlying t = some (.slice e)
  | .struct fs => ∃ fields : Array Field, P.underlying t = some (.struct fields) ∧ fields.toList.map (fun f => (f.offset, f.type)) = fs ∧ ∀ f ∈ fields.toList, P.cellsOf f.type ≠ 0 ∧ ∃ i, P.info? f.type = some i
  | .ptr e => P.underlying t = some (.pointer e)
  | .arr n e => P.underlying t = some (.array n e)
  | .map k e => P.underlying t = some (.map k e)
  | .fn => ∃ ps rs v, P.underlying t = some (.func ps rs v)
  | .other => True

structure TyOK (P : Program) (t : TypeId) (ty : Ty) : Prop where
  kd : kdOK P t ty.kd
  info : ∃ i z, P.info? t = some i ∧ i.size = ty.size ∧ i.bytes = ty.bytes ∧ i.zero = some z ∧ ∀ M, All2 (DenD P M) ty.zero z.cells.toList

def TabOK (P : Program) (T : Nat → Ty) : Prop := ∀ t, (T t).kd.known = true → TyOK P t (T t)

theorem TyOK.size {t : TypeId} {ty : Ty} (h : TyOK P t ty) : P.cellsOf t = ty.size := by
  obtain ⟨i, z, h1, h2, _⟩ := h.info
  simp [Program.cellsOf, h1, h2]
theorem TyOK.bytes {t : TypeId} {ty : Ty} (h : TyOK P t ty) : P.bytesOf t = ty.bytes := by
  obtain ⟨i, z, h1, _, h3, _⟩ := h.info
  simp [Program.bytesOf, h1, h3]
theorem TyOK.run_size {t : TypeId} {ty : Ty} (h : TyOK P t ty) (W : World) : (sizeOf t).run P W = .ok ty.size W := by
  obtain ⟨i, z, h1, h2, _⟩ := h.info
  simp [sizeOf, typeInfo, h1, h2]
theorem TyOK.run_agg {t : TypeId} {ty : Ty} (h : TyOK P t ty) (hk : ty.kd.known = true) (W : World) : (isAgg t).run P W = .ok ty.kd.agg W := by
  have h1 := h.kd
  cases hkd : ty.kd <;> rw [hkd] at h1 hk <;> simp only [kdOK] at h1
  case struct fs => obtain ⟨f, h1, _⟩ := h1; simp [isAgg, run_underlying h1, Kd.agg]
  case fn => obtain ⟨_, _, _, h1⟩ := h1; simp [isAgg, run_underlying h1, Kd.agg]
  case other => simp [Kd.known] at hk
  all_goals simp [isAgg, run_underlying h1, Kd.agg]

theorem dropGo_eq {α β : Type} : ∀ (n : Nat) (l : List α) (k : List α → Option β), dropGo n l k = k (l.drop n)
  | 0, l, k => by simp [dropGo]
  | n + 1, [], k => by simp [dropGo]
  | n + 1, x :: r, k => by simp [dropGo, dropGo_eq n r k]
theorem revGo_eq {α β : Type} : ∀ (l acc : List α) (k : List α → Option β), revGo l acc k = k (l.reverse ++ acc)
  | [], acc, k => by simp [revGo]
  | x :: r, acc, k => by simp [revGo, revGo_eq r]
theorem takeGo_some {α β : Type} {f : α → L} {k : List L → Option β} {y : β} : ∀ {n : Nat} {l : List α} {acc : List L}, takeGo f n l acc k = some y → n ≤ l.length ∧ k (((l.take n).map f).reverse ++ acc) = some y
  | 0, l, acc, h => by simpa [takeGo] using h
  | n + 1, [], acc, h => by simp [takeGo] at h
  | n + 1, x :: r, acc, h => by
    simp only [takeGo] at h
    have := takeGo_some h
    simp only [List.length_cons, List.take_succ_cons, List.map_cons, List.reverse_cons, List.append_assoc, List.singleton_append]
    exact ⟨by omega, this.2⟩
theorem readL_some {agg : Bool} {size off : Nat} {cs : List L} {v : A} (h : readL agg size off cs = some v) :
    (agg = true ∧ off + size ≤ max cs.length off ∧ size ≤ (cs.drop off).length ∧ v = .b (.agg ((cs.drop off).take size))) ∨ (agg = false ∧ ∃ x, cs[off]? = some x ∧ v = .b (.l x)) := by
  unfold readL at h
  rw [dropGo_eq] at h
  cases agg with
  | true =>
    left
    simp only at h
    obtain ⟨h1, h2⟩ := takeGo_some h
    rw [revGo_eq] at h2
    simp at h2
    refine ⟨rfl, ?_, h1, ?_⟩
    · simp at h1; omega
    · rw [← h2]
  | false =>
    right
    refine ⟨rfl, ?_⟩
    have e : (cs.drop off)[0]? = cs[off]? := by simp
    cases hd : cs.drop off with
    | nil => simp [hd] at h
    | cons x r =>
      rw [hd] at e h
      simp at h e
      exact ⟨x, e.symm, h.symm⟩
theorem readD_some {agg : Bool} {size : Nat} {cs : List D} {v : A} (h : readD agg size cs = some v) :
    (agg = true ∧ size ≤ cs.length ∧ v = .b (.agg ((cs.take size).map L.d))) ∨ (agg = false ∧ ∃ x, cs[0]? = some x ∧ v = dl x) := by
  unfold readD at h
  cases agg with
  | true =>
    left
    simp only at h
    obtain ⟨h1, h2⟩ := takeGo_some h
    rw [revGo_eq] at h2
    simp at h2
    exact ⟨rfl, h1, by rw [← h2, List.map_take]⟩
  | false =>
    right
    refine ⟨rfl, ?_⟩
    cases cs with
    | nil => simp at h
    | cons x r => simp at h; exact ⟨x, rfl, h.symm⟩

/-- A load, out of a known row. -/
theorem run_load_at {t : TypeId} {ty : Ty} (ht : TyOK P t ty) (hk : ty.kd.known = true) (ad : Addr) (vs : List Value) (hc : ∀ j v, vs[j]? = some v → W.cell? (ad.add j) = some v) :
    (ty.kd.agg = true → vs.length = ty.size → (Instr.loadAt t (.pointer (some ad))).run P W = .ok (.agg vs.toArray) W) ∧
    (ty.kd.agg = false → ∀ v, vs[0]? = some v → (Instr.loadAt t (.pointer (some ad))).run P W = .ok v W) := by
  constructor
  · intro ha hl
    have hr := run_loadCells_list (P := P) (w := W) ad vs hc
    simp only [Instr.loadAt, Instr.sureAddr, loadVar, Sem.run_bind, Sem.run_pure, Result.andThen_ok, ht.run_agg hk, ha, if_true, ht.run_size]
    rw [← hl, hr]
    simp
  · intro ha v hv
    have := hc 0 v hv
    simp only [Addr.add_zero'] at this
    simp [Instr.loadAt, Instr.sureAddr, loadVar, ht.run_agg hk, ha, this]

end Go.Cel
