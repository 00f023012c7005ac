/-
  The evaluator: what an operation, a region, a text and a call do to values and a heap of the evaluator.
-/
import Derived.Test.YtjldbkicpbchkaaGreatEvA
namespace Go.Proofs.YtjldbkicpbchkaaGreat.Ev
open Go

inductive Opd where
  | t (i : Nat)
  | v (x : AV)
  deriving Inhabited

abbrev Env := List AV

def Opd.ev (e : Env) : Opd → AV
  | .t i => e.getD i .undef
  | .v x => x

/-- The kinds of plain cells. -/
inductive AK where
  | i
  | s
  | b
  deriving Inhabited

/-- How two values of one type are held against each other. -/
inductive EK where
  | no
  | bool
  | ptr
  | slice
  | map
  | func
  | iface
  | cells (ks : List AK)   -- a struct or an array of whole numbers, bools, strings
  deriving Inhabited

/-! ### Operations that look at no memory -/
inductive POp where
  | mov (x : Opd)
  | chk (x : Opd)
  | pick (c a b : Opd)
  | bin (op : BinOp) (k : EK) (x y : Opd)
  | un (op : UnOp) (x : Opd)
  | toInt (k : IntKind) (x : Opd)
  | toStr (x : Opd)
  | ifc (t : TypeId) (x : Opd)
  | fn (f : Fn) (first captured : List Opd)
  | build (zero : List AV) (parts : List (Nat × Nat × Opd))
  | fieldA (off : Nat) (x : Opd)
  | field (ag : Bool) (off size : Nat) (x : Opd)
  | idxA (arr : Option Nat) (es : Nat) (x i : Opd)
  | idxS (x i : Opd)
  | idx (len : Nat) (ag : Bool) (es : Nat) (x i : Opd)
  | extract (x : Opd) (i : Nat)
  | slV (es : Nat) (x : Opd) (lo hi mx : Option Opd)
  | slS (x : Opd) (lo hi : Option Opd)
  | lenS (x : Opd)
  | len (x : Opd)
  | lenA (n : Nat)
  | mm (mx : Bool) (x : Opd) (xs : List Opd)
  deriving Inhabited

def intOp (op : BinOp) (k : IntKind) (a b : Int) : Option AV :=
  match op with
  | .add => some (.int k (k.wrap (a + b)))
  | .sub => some (.int k (k.wrap (a - b)))
  | .mul => some (.int k (k.wrap (a * b)))
  | .quo => cond (b == 0) none (some (.int k (k.wrap (a.tdiv b))))
  | .rem => cond (b == 0) none (some (.int k (a.tmod b)))
  | .and => some (.int k (k.wrap (BitVec.ofInt k.bits a &&& BitVec.ofInt k.bits b).toNat))
  | .or => some (.int k (k.wrap (BitVec.ofInt k.bits a ||| BitVec.ofInt k.bits b).toNat))
  | .xor => some (.int k (k.wrap (BitVec.ofInt k.bits a ^^^ BitVec.ofInt k.bits b).toNat))
  | .andNot => some (.int k (k.wrap (BitVec.ofInt k.bits a &&& ~~~(BitVec.ofInt k.bits b)).toNat))
  | .eql => some (.bool (a == b))
  | .neq => some (.bool (a != b))
  | .lss => some (.bool (decide (a < b)))
  | .leq => some (.bool (decide (a ≤ b)))
  | .gtr => some (.bool (decide (a > b)))
  | .geq => some (.bool (decide (a ≥ b)))
  | _ => none

def shiftOp (op : BinOp) (k : IntKind) (a b : Int) : Option AV :=
  cond (decide (b < 0)) none <|
    match op with
    | .shl => some (.int k (k.wrap (a * 2 ^ (min b.toNat k.bits))))
    | .shr => some (.int k (a.fdiv (2 ^ (min b.toNat k.bits))))
    | _ => none

def strOp (op : BinOp) (a b : List UInt8) : Option AV :=
  match op with
  | .add => cond (Nat.ble (a.length + b.length) 4611686018427387904) (some (.str (a ++ b))) none
  | .eql => some (.bool (a == b))
  | .neq => some (.bool (!(a == b)))
  | .lss => some (.bool (Op.bytesLess a b))
  | .leq => some (.bool (Op.bytesLess a b || a == b))
  | .gtr => some (.bool (!(Op.bytesLess a b || a == b)))
  | .geq => some (.bool (!(Op.bytesLess a b)))
  | _ => none

def cellEq : AK → AV → AV → Option Bool
  | .i, .int k a, .int k' b => cond (decide (k = k')) (some (a == b)) none
  | .s, .str a, .str b => some (a == b)
  | .b, .bool a, .bool b => some (a == b)
  | _, _, _ => none

def cellsEq : List AK → List AV → List AV → Option Bool
  | [], [], [] => some true
  | k :: ks, x :: xs, y :: ys => match cellEq k x y, cellsEq ks xs ys with
    | some b, some r => some (b && r)
    | _, _ => none
  | _, _, _ => none

def eqOp (k : EK) (x y : AV) : Option Bool :=
  match k, x, y with
  | .bool, .bool a, .bool b => some (a == b)
  | .ptr, .nilp, .nilp => some true
  | .ptr, .nilp, .ptr _ _ => some false
  | .ptr, .ptr _ _, .nilp => some false
  | .ptr, .ptr b o, .ptr b' o' => cond (Nat.beq b b') (some (Nat.beq o o')) none
  | .slice, .nils, .nils => some true
  | .slice, .nils, .sl .. => some false
  | .slice, .sl .., .nils => some false
  | .map, .nilm, .nilm => some true
  | .map, .nilm, .map _ => some false
  | .map, .map _, .nilm => some false
  | .func, .nilf, .nilf => some true
  | .func, .nilf, .fn .. => some false
  | .func, .fn .., .nilf => some false
  | .iface, .nili, .nili => some true
  | .iface, .nili, .ifc .. => some false
  | .iface, .ifc .., .nili => some false
  | .cells ks, .agg xs, .agg ys => cellsEq ks xs ys
  | _, _, _ => none

def binEv (op : BinOp) (k : EK) (x y : AV) : Option AV :=
  match x, y with
  | .int i a, .int j b =>
    match op with
    | .shl | .shr => shiftOp op i a b
    | _ => cond (decide (i = j)) (intOp op i a b) none
  | .str a, .str b => strOp op a b
  | x, y =>
    match op with
    | .eql => match eqOp k x y with | some b => some (.bool b) | none => none
    | .neq => match eqOp k x y with | some b => some (.bool (!b)) | none => none
    | _ => none

def unEv (op : UnOp) (x : AV) : Option AV :=
  match op, x with
  | .neg, .int k n => some (.int k (k.wrap (0 - n)))
  | .xor, .int k n => intOp .xor k (if k.signed then -1 else k.max) n
  | .not, .bool b => some (.bool (!b))
  | _, _ => none

/-- The parts of a literal, laid into the cells. -/
def setAll : List AV → Nat → List AV → List AV
  | cs, _, [] => cs
  | cs, o, v :: vs => setAll (cs.set o v) (o + 1) vs

def fillEv (e : Env) : List AV → List (Nat × Nat × Opd) → Option (List AV)
  | cs, [] => some cs
  | cs, (off, size, x) :: ps =>
    let v := (x.ev e).cells
    cond (Nat.beq v.length size && Nat.ble (off + v.length) cs.length) (fillEv e (setAll cs off v) ps) none

def nat? (x : AV) : Option Nat :=
  match x with
  | .int _ (.ofNat n) => some n
  | _ => none

/-- The bounds of a slice expression: from, to, room. -/
def bounds (e : Env) (len cap : Nat) (lo hi mx : Option Opd) : Option (Nat × Nat × Nat) :=
  match (match mx with | none => some cap | some x => match nat? (x.ev e) with | some m => cond (Nat.ble m cap) (some m) none | none => none) with
  | none => none
  | some m =>
    match (match hi with | none => cond mx.isSome none (some len) | some x => match nat? (x.ev e) with | some h => cond (Nat.ble h m) (some h) none | none => none) with
    | none => none
    | some h =>
      match (match lo with | none => some 0 | some x => match nat? (x.ev e) with | some l => cond (Nat.ble l h) (some l) none | none => none) with
      | none => none
      | some l => some (l, h, m)

def mmEv (mx : Bool) : AV → List AV → Option AV
  | x, [] => some x
  | .int k a, .int _ b :: r => mmEv mx (.int k (cond mx (if b > a then b else a) (if b < a then b else a))) r
  | _, _ => none

def POp.run (e : Env) : POp → Option AV
  | .mov x => some (x.ev e)
  | .chk x => match x.ev e with
    | .nilp | .nili | .nilf => none
    | .fn (.method _) _ _ => none
    | v => some v
  | .pick c a b => match c.ev e with
    | .bool true => some (a.ev e)
    | .bool false => some (b.ev e)
    | _ => none
  | .bin op k x y => binEv op k (x.ev e) (y.ev e)
  | .un op x => unEv op (x.ev e)
  | .toInt k x => match x.ev e with
    | .int _ n => some (.int k (k.wrap n))
    | _ => none
  | .toStr x => match x.ev e with
    | .str s => some (.str s)
    | _ => none
  | .ifc t x => some (.ifc t (x.ev e))
  | .fn f a c => some (.fn f (a.map (·.ev e)) (c.map (·.ev e)))
  | .build zero ps => match fillEv e zero ps with
    | some cs => some (.agg cs)
    | none => none
  | .fieldA off x => match x.ev e with
    | .ptr b o => some (.ptr b (o + off))
    | _ => none
  | .field ag off size x => match x.ev e with
    | .agg cs => cond ag (some (.agg ((cs.drop off).take size))) cs[off]?
    | _ => none
  | .idxA (some n) es x i => match x.ev e, nat? (i.ev e) with
    | .ptr b o, some j => cond (Nat.blt j n) (some (.ptr b (o + j * es))) none
    | _, _ => none
  | .idxA none es x i => match x.ev e, nat? (i.ev e) with
    | .sl b o ln _ es' _, some j => cond (Nat.blt j ln && Nat.beq es es') (some (.ptr b (o + j * es))) none
    | _, _ => none
  | .idxS x i => match x.ev e, nat? (i.ev e) with
    | .str s, some j => match s[j]? with
      | some c => some (.int .u8 c.toNat)
      | none => none
    | _, _ => none
  | .idx ln ag es x i => match x.ev e, nat? (i.ev e) with
    | .agg cs, some j => cond (Nat.blt j ln) (cond ag (some (.agg ((cs.drop (j * es)).take es))) cs[j * es]?) none
    | _, _ => none
  | .extract x i => match x.ev e with
    | .tup vs => vs[i]?
    | _ => none
  | .slV es x lo hi mx => match x.ev e with
    | .nils => match bounds e 0 0 lo hi mx with
      | some _ => some .nils
      | none => none
    | .sl b o ln cap es' ex => match bounds e ln cap lo hi mx with
      | some (l, h, m) => cond (Nat.beq es es') (some (.sl b (o + l * es) (h - l) (m - l) es (ex || mx.isSome))) none
      | none => none
    | _ => none
  | .slS x lo hi => match x.ev e with
    | .str s => match bounds e s.length s.length lo hi none with
      | some (l, h, _) => some (.str ((s.take h).drop l))
      | none => none
    | _ => none
  | .lenS x => match x.ev e with
    | .str s => some (.int .i64 s.length)
    | _ => none
  | .len x => match x.ev e with
    | .nils => some (.int .i64 0)
    | .sl _ _ ln _ _ _ => some (.int .i64 ln)
    | _ => none
  | .lenA n => some (.int .i64 n)
  | .mm mx x xs => mmEv mx (x.ev e) (xs.map (·.ev e))

/-! ### Operations that read memory -/
inductive ROp where
  | load (ag : Option Nat) (x : Opd)
  | b2s (x : Opd)
  | slP (n es : Nat) (x : Opd) (lo hi mx : Option Opd)
  | look (zero : AV) (ok : Bool) (m k : Opd)   -- in a map whose keys are whole numbers
  | lenM (m : Opd)
  deriving Inhabited

/-- So many cells of a block, from one on. -/
def AHeap.rd (h : AHeap) (b o n : Nat) : Option (List AV) :=
  match h.get b with
  | some (.cells cs ..) => cond (Nat.ble (o + n) cs.length) (some ((cs.drop o).take n)) none
  | _ => none

def bytesOf : List AV → Option (List UInt8)
  | [] => some []
  | .int .u8 n :: r => match bytesOf r with
    | some s => some (UInt8.ofNat n.toNat :: s)
    | none => none
  | _ => none

/-- The value at a key. -/
def findA (kd : IntKind) (n : Int) : List (AV × AV) → Option (Option AV)
  | [] => some none
  | (.int j b, v) :: r => cond (decide (kd = j)) (cond (n == b) (some (some v)) (findA kd n r)) none
  | _ => none

/-- The value at a key is set. -/
def setA (kd : IntKind) (n : Int) (x : AV) : List (AV × AV) → Option (List (AV × AV))
  | [] => some [(.int kd n, x)]
  | (.int j b, v) :: r => cond (decide (kd = j)) (cond (n == b) (some ((.int kd n, x) :: r)) (match setA kd n x r with | some r' => some ((.int j b, v) :: r') | none => none)) none
  | _ => none

def delA (kd : IntKind) (n : Int) : List (AV × AV) → Option (List (AV × AV))
  | [] => some []
  | (.int j b, v) :: r => cond (decide (kd = j)) (cond (n == b) (some r) (match delA kd n r with | some r' => some ((.int j b, v) :: r') | none => none)) none
  | _ => none

def looked (zero : AV) (ok : Bool) (x : Option AV) : AV :=
  match x with
  | some v => cond ok (.tup [v, .bool true]) v
  | none => cond ok (.tup [zero, .bool false]) zero

def ROp.run (e : Env) (h : AHeap) : ROp → Option AV
  | .load none x => match x.ev e with
    | .ptr b o => match h.rd b o 1 with
      | some [v] => some v
      | _ => none
    | _ => none
  | .load (some n) x => match x.ev e with
    | .ptr b o => match h.rd b o n with
      | some vs => some (.agg vs)
      | none => none
    | _ => none
  | .b2s x => match x.ev e with
    | .nils => some (.str [])
    | .sl b o len _ es _ => match cond (Nat.beq es 1) (h.rd b o len) none with
      | some vs => match bytesOf vs with
        | some s => some (.str s)
        | none => none
      | none => none
    | _ => none
  | .slP n es x lo hi mx => match x.ev e, bounds e n n lo hi mx with
    | .ptr b o, some (l, h', m) => match h.get b with
      | some (.cells cs ..) => cond (Nat.ble (o + n * es) cs.length) (some (.sl b (o + l * es) (h' - l) (m - l) es true)) none
      | _ => none
    | _, _ => none
  | .look z ok m k => match m.ev e, k.ev e with
    | .nilm, .int _ _ => some (looked z ok none)
    | .map b, .int kd n => match h.get b with
      | some (.map es) => match findA kd n es with
        | some r => some (looked z ok r)
        | none => none
      | _ => none
    | _, _ => none
  | .lenM m => match m.ev e with
    | .nilm => some (.int .i64 0)
    | .map b => match h.get b with
      | some (.map es) => some (.int .i64 es.length)
      | _ => none
    | _ => none

/-! ### Operations that make memory -/
inductive NOp where
  | new (zero : List AV) (ty : TypeId)
  | box (ty : TypeId) (x : Opd)
  | lit (ty : TypeId) (len es : Nat) (zero : List AV) (parts : List (Nat × Nat × Opd))
  | mks (ty : TypeId) (es bytes : Nat) (zero : List AV) (len cap : Opd)
  | s2b (ty : TypeId) (x : Opd)
  | mkm
  deriving Inhabited

def repCells (zero : List AV) : Nat → List AV
  | 0 => []
  | n + 1 => zero ++ repCells zero n

/-- The new block, and the value that leads to it. -/
def NOp.run (e : Env) : NOp → Option (AObj × (Nat → AV))
  | .new zero ty => some (.cells zero ty false true [], fun b => .ptr b 0)
  | .box ty x => some (.cells (x.ev e).cells ty false true [], fun b => .ptr b 0)
  | .lit ty len es zero ps => match fillEv e zero ps with
    | some cs => some (.cells cs ty false true [], fun b => .sl b 0 len len es true)
    | none => none
  | .mks ty es bytes zero len cap => match nat? (len.ev e), nat? (cap.ev e) with
    | some l, some c => cond (Nat.ble l c && Nat.ble (c * bytes) 140737488355328 && Nat.ble c 140737488355328)
        (some (.cells (repCells zero c) ty false true [], fun b => .sl b 0 l c es true)) none
    | _, _ => none
  | .s2b ty x => match x.ev e with
    | .str s => some (.cells (s.map fun c => .int .u8 c.toNat) ty false false [], fun b => .sl b 0 s.length s.length 1 false)
    | _ => none
  | .mkm => some (.map [], fun b => .map b)

/-! ### Operations that write -/
inductive AOp where
  | store (n : Nat) (a x : Opd)
  | app (ty : TypeId) (es bytes : Nat) (s x : Opd)
  | copy (es : Nat) (s x : Opd)
  | mset (m k x : Opd)
  | mdel (m k : Opd)
  deriving Inhabited

def kill (h : AHeap) : List Nat → AHeap
  | [] => h
  | k :: ks => kill (h.set k .dead) ks

def allOne : List AV → Bool
  | [] => true
  | v :: vs => v.one && allOne vs

/-- Cells of a block are written. -/
def AHeap.wr (h : AHeap) (b o : Nat) (vs : List AV) : Option AHeap :=
  match h.get b with
  | some (.cells cs ty false sh kin) =>
    cond (Nat.ble (o + vs.length) cs.length && allOne vs && !(kin.contains b)) (some ((kill h kin).set b (.cells (setAll cs o vs) ty false sh []))) none
  | _ => none

/-- The cells of what is appended, or copied. -/
def AHeap.src (h : AHeap) (es n : Nat) : AV → Option (List AV)
  | .nils => some []
  | .sl b o _ _ es' _ => cond (Nat.beq es es') (h.rd b o (n * es)) none
  | .str s => cond (Nat.beq es 1) (some ((s.take n).map fun c => .int .u8 c.toNat)) none
  | _ => none

def lenOf : AV → Option Nat
  | .nils => some 0
  | .sl _ _ len _ _ _ => some len
  | .str s => some s.length
  | _ => none

def AOp.run (e : Env) (h : AHeap) : AOp → Option (AV × AHeap)
  | .store n a x => match a.ev e with
    | .ptr b o => cond (Nat.beq (x.ev e).cells.length n)
      (match h.wr b o (x.ev e).cells with
       | some h' => some (.undef, h')
       | none => none) none
    | _ => none
  | .app ty es bytes s x =>
    match lenOf (x.ev e) with
    | none => none
    | some n =>
      match h.src es n (x.ev e) with
      | none => none
      | some new =>
        match s.ev e with
        | .nils => cond (Nat.beq n 0) (some (.nils, h)) <|
            cond (Nat.ble (n * bytes) 35184372088832 && Nat.ble n 35184372088832) (some (.sl h.n 0 n n es false, h.push (.cells new ty false false []))) none
        | .sl b o len cap es' ex =>
          cond (!(Nat.beq es es')) none <|
          cond (Nat.beq n 0) (some (.sl b o len cap es ex, h)) <|
          cond (Nat.ble (len + n) cap) (match h.wr b (o + len * es) new with
            | some h' => some (.sl b o (len + n) cap es ex, h')
            | none => none) <|
          cond (!(Nat.ble ((len + n) * bytes) 35184372088832 && Nat.ble (len + n) 35184372088832)) none <|
          match h.get b with
          | some (.cells cs ty' ro sh kin) =>
            cond (!(Nat.ble (o + len * es) cs.length)) none <|
            cond ex (some (.sl h.n 0 (len + n) (len + n) es false, h.push (.cells ((cs.drop o).take (len * es) ++ new) ty false false []))) <|
            cond (!ro && !sh && Nat.beq (o + len * es) cs.length && Nat.beq ty ty' && allOne new)
              (some (.sl h.n 0 (len + n) (len + n) es false,
                (h.set b (.cells cs ty' true true kin)).push (.cells ((cs.drop o) ++ new) ty false false (b :: kin)))) none
          | _ => none
        | _ => none
  | .copy es s x =>
    match lenOf (s.ev e), lenOf (x.ev e) with
    | some m, some k =>
      let n := min k m
      match h.src es n (x.ev e) with
      | none => none
      | some cs =>
        match s.ev e with
        | .nils => some (.int .i64 0, h)
        | .sl b o _ _ es' _ => cond (Nat.beq n 0) (some (.int .i64 0, h)) <|
          cond (!(Nat.beq es es')) none <|
          match h.wr b o cs with
          | some h' => some (.int .i64 n, h')
          | none => none
        | _ => none
    | _, _ => none
  | .mset m k x => match m.ev e, k.ev e with
    | .map b, .int kd n => match h.get b with
      | some (.map es) => match setA kd n (x.ev e) es with
        | some es' => some (.undef, h.set b (.map es'))
        | none => none
      | _ => none
    | _, _ => none
  | .mdel m k => match m.ev e, k.ev e with
    | .nilm, .int _ _ => some (.tup [], h)
    | .map b, .int kd n => match h.get b with
      | some (.map es) => match delA kd n es with
        | some es' => some (.tup [], h.set b (.map es'))
        | none => none
      | _ => none
    | _, _ => none

/-! ### Calls -/
inductive COp where
  | fn (f : Nat) (args : List Opd)
  | val (x : Opd) (args : List Opd)
  | inv (x : Opd) (m : String) (args : List Opd)
  deriving Inhabited

inductive IOp where
  | p (o : POp)
  | k (x : Opd)   -- not nil
  | r (o : ROp)
  | n (o : NOp)
  | a (o : AOp)
  | c (o : COp)
  deriving Inhabited

structure IOper where
  d : Option Nat
  g : Option (Nat × Bool)
  k : IOp
  deriving Inhabited

inductive ICode where
  | skip
  | ret
  | exit (id : Nat)
  | seq (a b : ICode)
  | cond (c : Opd) (a b : ICode)
  | block (id : Nat) (a : ICode)
  | loop (a : ICode)
  | reg (ops : List IOper)
  | dreg (ops : List (IOper × List Nat))
  | bad
  deriving Inhabited

inductive IRes where
  | t (i : Nat)
  | cell (a : Nat) (ag : Option Nat)
  deriving Inhabited

structure IFn where
  nt : Nat
  res : List IRes
  body : ICode
  deriving Inhabited

/-- A table by numbers. -/
inductive CT where
  | lf
  | nd (v : Option IFn) (l r : CT)
  deriving Inhabited

def CT.get : CT → Nat → Option IFn
  | .lf, _ => none
  | .nd v _ _, 0 => v
  | .nd _ l r, i + 1 => cond (Nat.beq (i % 2) 0) (l.get (i / 2)) (r.get (i / 2))

structure ASys where
  code : Nat → Option IFn
  sum : Nat → Option (List AV → AHeap → Option (AV × AHeap))
  meth : TypeId → String → Option Nat

inductive AX where
  | nx
  | rt
  | ex (id : Nat)
  deriving Inhabited

abbrev CallF := Nat → List AV → AHeap → Option (AV × AHeap)

def valCall (call : CallF) (v : AV) (args : List AV) (h : AHeap) : Option (AV × AHeap) :=
  match v with
  | .fn (.func f) first captured => call f (first ++ args ++ captured) h
  | _ => none

def COp.run (S : ASys) (call : CallF) (e : Env) (h : AHeap) : COp → Option (AV × AHeap)
  | .fn f args => call f (args.map (·.ev e)) h
  | .val x args => valCall call (x.ev e) (args.map (·.ev e)) h
  | .inv x m args => match x.ev e with
    | .ifc t v => match S.meth t m with
      | some f => call f (v :: args.map (·.ev e)) h
      | none => none
    | _ => none

/-- A value that is not nil; of a method's value, that its receiver can be had. -/
def chkRun (S : ASys) (v : AV) : Option AV :=
  match v with
  | .nilp | .nili | .nilf => none
  | .fn (.method m) first _ => match first with
    | .ifc t _ :: _ => match S.meth t m with
      | some _ => some v
      | none => none
    | _ => none
  | v => some v

def IOp.run (S : ASys) (call : CallF) (e : Env) (h : AHeap) : IOp → Option (AV × AHeap)
  | .p o => match o.run e with | some v => some (v, h) | none => none
  | .k x => match chkRun S (x.ev e) with | some v => some (v, h) | none => none
  | .r o => match o.run e h with | some v => some (v, h) | none => none
  | .n o => match o.run e with | some (b, mk) => some (mk h.n, h.push b) | none => none
  | .a o => o.run e h
  | .c o => o.run S call e h

def put (e : Env) (d : Option Nat) (v : AV) : Env :=
  match d with
  | some i => e.set i v
  | none => e

/-- Is the operation wanted? -/
def IOper.on (o : IOper) (e : Env) : Bool :=
  match o.g with
  | none => true
  | some (t, want) => match e.getD t .undef with
    | .bool b => b == want
    | _ => false

def IOper.step (S : ASys) (call : CallF) (o : IOper) (e : Env) (h : AHeap) : Option (Env × AHeap) :=
  cond (o.on e)
    (match o.k.run S call e h with
     | some (v, h') => some (put e o.d v, h')
     | none => none)
    (some (put e o.d .undef, h))

def runOps (S : ASys) (call : CallF) : List IOper → Env → AHeap → Option (Env × AHeap)
  | [], e, h => some (e, h)
  | o :: os, e, h => match o.step S call e h with
    | some (e', h') => runOps S call os e' h'
    | none => none

mutual
def AV.beq : AV → AV → Bool
  | .bool a, .bool b => a == b
  | .int k a, .int j b => decide (k = j) && a == b
  | .str a, .str b => a == b
  | .nilp, .nilp => true
  | .ptr b o, .ptr b' o' => Nat.beq b b' && Nat.beq o o'
  | .nils, .nils => true
  | .sl b o l c es ex, .sl b' o' l' c' es' ex' => Nat.beq b b' && Nat.beq o o' && Nat.beq l l' && Nat.beq c c' && Nat.beq es es' && ex == ex'
  | .nilm, .nilm => true
  | .map b, .map b' => Nat.beq b b'
  | .nilf, .nilf => true
  | .fn f a c, .fn f' a' c' => decide (f = f') && AV.beqs a a' && AV.beqs c c'
  | .nili, .nili => true
  | .ifc t v, .ifc t' v' => Nat.beq t t' && AV.beq v v'
  | .agg a, .agg b => AV.beqs a b
  | .tup a, .tup b => AV.beqs a b
  | _, _ => false
def AV.beqs : List AV → List AV → Bool
  | [], [] => true
  | x :: xs, y :: ys => AV.beq x y && AV.beqs xs ys
  | _, _ => false
end

def AV.block? : AV → Option Nat
  | .ptr b _ | .sl b _ _ _ _ _ | .map b => some b
  | _ => none

/-- A read says the same behind a call as ahead of it; a new block holds the same. -/
def again (o : IOper) (e : Env) (h : AHeap) : Bool :=
  cond (o.on e)
    (match o.k, o.d with
     | .r r, some d => match r.run e h with
       | some v => AV.beq v (e.getD d .undef)
       | none => false
     | .n m, some d => match m.run e, (e.getD d .undef).block? with
       | some (.cells cs ty ro sh kin, _), some b => match h.get b with
         | some (.cells cs' ty' ro' sh' kin') => AV.beqs cs cs' && Nat.beq ty ty' && ro == ro' && sh == sh' && kin == kin'
         | _ => false
       | _, _ => false
     | _, _ => false)
    true

def againAll (ops : List (IOper × List Nat)) (e : Env) (h : AHeap) : List Nat → Bool
  | [] => true
  | i :: is => (match ops[i]? with
    | some (o, _) => again o e h
    | none => false) && againAll ops e h is

def runD (S : ASys) (call : CallF) (all : List (IOper × List Nat)) : List (IOper × List Nat) → Env → AHeap → Option (Env × AHeap)
  | [], e, h => some (e, h)
  | (o, is) :: os, e, h => match o.step S call e h with
    | some (e', h') => cond (againAll all e' h' is) (runD S call all os e' h') none
    | none => none

def resEv (e : Env) (h : AHeap) : List IRes → Option (List AV)
  | [] => some []
  | .t i :: r => match resEv e h r with
    | some vs => some (e.getD i .undef :: vs)
    | none => none
  | .cell a ag :: r => match (ROp.load ag (.t a)).run e h, resEv e h r with
    | some v, some vs => some (v :: vs)
    | _, _ => none

def resVal (e : Env) (h : AHeap) (rs : List IRes) : Option AV :=
  match resEv e h rs with
  | some [v] => some v
  | some vs => some (.tup vs)
  | none => none

def callBy (S : ASys) (rec : ICode → Env → AHeap → Option (AX × Env × AHeap)) : CallF := fun f args h =>
  match S.sum f with
  | some s => s args h
  | none => match S.code f with
    | none => none
    | some fn => match rec fn.body (args ++ List.replicate (fn.nt - args.length) .undef) h with
      | some (.nx, e, h') => match resVal e h' fn.res with | some v => some (v, h') | none => none
      | some (.rt, e, h') => match resVal e h' fn.res with | some v => some (v, h') | none => none
      | _ => none

def run (S : ASys) : Nat → ICode → Env → AHeap → Option (AX × Env × AHeap)
  | 0, _, _, _ => none
  | n + 1, c, e, h =>
    match c with
    | .skip => some (.nx, e, h)
    | .ret => some (.rt, e, h)
    | .exit id => some (.ex id, e, h)
    | .seq a b => match run S n a e h with
      | some (.nx, e', h') => run S n b e' h'
      | r => r
    | .cond c a b => match c.ev e with
      | .bool true => run S n a e h
      | .bool false => run S n b e h
      | _ => none
    | .block id a => match run S n a e h with
      | some (.ex id', e', h') => cond (Nat.beq id' id) (some (.nx, e', h')) (some (.ex id', e', h'))
      | r => r
    | .loop a => match run S n a e h with
      | some (.nx, e', h') => run S n (.loop a) e' h'
      | r => r
    | .reg ops => match runOps S (callBy S (run S n)) ops e h with
      | some (e', h') => some (.nx, e', h')
      | none => none
    | .dreg ops => match runD S (callBy S (run S n)) ops ops e h with
      | some (e', h') => some (.nx, e', h')
      | none => none
    | .bad => none

def callN (S : ASys) (n : Nat) : CallF := callBy S (run S n)

end Go.Proofs.YtjldbkicpbchkaaGreat.Ev
