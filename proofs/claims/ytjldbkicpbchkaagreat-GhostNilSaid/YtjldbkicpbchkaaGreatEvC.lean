/-
  From the program's text to the evaluator's: each operation with its sizes and places looked up once; a statement whose order is drawn with what is asked of every order.
-/
import Derived.Test.YtjldbkicpbchkaaGreatEvB
namespace Go.Proofs.YtjldbkicpbchkaaGreat.Ev
open Go

def allSome {α β : Type} (f : α → Option β) : List α → Option (List β)
  | [] => some []
  | x :: xs => match f x, allSome f xs with
    | some y, some ys => some (y :: ys)
    | _, _ => none

def cVal : Nat → Value → Option AV
  | 0, _ => none
  | n + 1, v => match v with
    | .bool b => some (.bool b)
    | .int k i => some (.int k i)
    | .string s => some (.str s.data.toList)
    | .pointer none => some .nilp
    | .slice none 0 0 => some .nils
    | .map none => some .nilm
    | .nilFunc => some .nilf
    | .nilIface => some .nili
    | .agg cs => match allSome (cVal n) cs.toList with | some l => some (.agg l) | none => none
    | .tuple cs => match allSome (cVal n) cs.toList with | some l => some (.tup l) | none => none
    | .func f a c => match allSome (cVal n) a.toList, allSome (cVal n) c.toList with | some x, some y => some (.fn f x y) | _, _ => none
    | .iface t x => match cVal n x with | some y => some (.ifc t y) | none => none
    | _ => none

def cOpd : Operand → Option Opd
  | .tmp t => some (.t t)
  | .const v => match cVal 6 v with | some x => some (.v x) | none => none
  | .func f => some (.v (.fn (.func f) [] []))
  | .global _ => none

def isAggB (P : Program) (t : TypeId) : Bool :=
  match P.underlying t with
  | some (.struct _) | some (.array _ _) => true
  | _ => false

def size? (P : Program) (t : TypeId) : Option Nat := match P.info? t with | some i => some i.size | none => none

/-- One cell, or so many. -/
def loadKind (P : Program) (t : TypeId) : Option (Option Nat) :=
  match P.underlying t with
  | none => none
  | some _ => cond (isAggB P t) (match size? P t with | some n => some (some n) | none => none) (some none)

def zero? (P : Program) (t : TypeId) : Option (List AV) :=
  match P.info? t with
  | some i => match i.zero with
    | some v => allSome (cVal 4) v.cells.toList
    | none => none
  | none => none

/-- A type's zero value, whole. -/
def whole? (P : Program) (t : TypeId) : Option AV :=
  match P.info? t with
  | some i => match i.zero with
    | some v => cVal 5 v
    | none => none
  | none => none

/-- The kinds of the cells of a value of a type that has whole numbers, bools and strings alone. -/
def planOf (P : Program) : Nat → TypeId → Option (List AK)
  | 0, _ => none
  | d + 1, t => match P.underlying t with
    | some .bool => some [.b]
    | some (.int _) => some [.i]
    | some .string => some [.s]
    | some (.struct fs) => cond (P.stoodInHeld t) none (go d (fs.toList) 0)
    | some (.array n e) => match planOf P d e, size? P e with
      | some p, some s => cond (Nat.beq p.length s) (some (rep n p)) none
      | _, _ => none
    | _ => none
 where
  go (d : Nat) : List Field → Nat → Option (List AK)
    | [], _ => some []
    | f :: fs, off => cond (f.name == "_") none <| cond (!(Nat.beq f.offset off)) none <|
      match planOf P d f.type, size? P f.type with
      | some p, some s => cond (Nat.beq p.length s) (match go d fs (off + s) with | some q => some (p ++ q) | none => none) none
      | _, _ => none
  rep : Nat → List AK → List AK
    | 0, _ => []
    | n + 1, p => p ++ rep n p

def isConstB : Operand → Bool
  | .const _ => true
  | _ => false

def ekOf (P : Program) (op : BinOp) (t : TypeId) (x y : Operand) : EK :=
  match op with
  | .eql | .neq => match P.underlying t with
    | some .bool => .bool
    | some (.pointer e) => match size? P e with
      | some (_ + 1) => .ptr
      | _ => .no
    | some (.slice _) => .slice
    | some (.map _ _) => .map
    | some (.func _ _ _) => .func
    | some (.interface _) => cond (isConstB x || isConstB y) .iface .no
    | _ => .no
  | _ => .no

/-- The kind under which the translation lays an operation on two operands. -/
def binK (P : Program) (op : BinOp) (t : TypeId) (x y : Operand) : EK :=
  match op, P.underlying t with
  | .eql, some (.struct _) | .neq, some (.struct _) | .eql, some (.array _ _) | .neq, some (.array _ _) => (match planOf P 12 t with | some ks => .cells ks | none => .no)
  | _, _ => ekOf P op t x y

def isIfaceB (P : Program) (t : TypeId) : Bool :=
  match P.underlying t with
  | some (.interface _) => true
  | _ => false

def cParts (place : Nat → Option (Nat × Nat)) (ps : List (Nat × Operand)) : Option (List (Nat × Nat × Opd)) :=
  allSome (fun (p : Nat × Operand) => match place p.1, cOpd p.2 with
    | some (off, size), some x => some (off, size, x)
    | _, _ => none) ps

def cOpt (x : Option Operand) : Option (Option Opd) :=
  match x with
  | none => some none
  | some y => match cOpd y with | some z => some (some z) | none => none

def isIntB (P : Program) (t : TypeId) : Bool :=
  match P.underlying t with
  | some (.int _) => true
  | _ => false

/-- The zero element of a map whose keys are whole numbers. -/
def mapElem (P : Program) (t : TypeId) : Option AV :=
  match P.underlying t with
  | some (.map kt et) => cond (isIntB P kt) (whole? P et) none
  | _ => none

def delElem (P : Program) (ats : Array TypeId) : Option AV :=
  match ats[0]? with
  | some t => mapElem P t
  | none => none

/-- The cells and the bytes of an element that is appended. -/
def appInfo (P : Program) (e : TypeId) : Option (Nat × Nat) :=
  match P.info? e, zero? P e with
  | some i, some z => cond (Nat.beq z.length i.size) (some (i.size, i.bytes)) none
  | _, _ => none

def cBuiltin (P : Program) (b : Builtin) (argTypes : Array TypeId) (args : List Operand) : Option IOp :=
  match b, args with
  | .len, [x] => match argTypes[0]? with
    | none => none
    | some t => match P.underlying t, cOpd x with
      | some .string, some x => some (.p (.lenS x))
      | some (.slice _), some x => some (.p (.len x))
      | some (.array n _), some _ => some (.p (.lenA n))
      | some (.map _ _), some x => some (.r (.lenM x))
      | _, _ => none
  | .append, [s, x] => match argTypes[0]?, argTypes[1]?, cOpd s, cOpd x with
    | some t, some u, some s, some x => cond (isIntB P u) none <| match P.underlying u, P.underlying t with
      | some _, some (.slice e) => match appInfo P e with
        | some i => some (.a (.app e i.1 i.2 s x))
        | none => none
      | _, _ => none
    | _, _, _, _ => none
  | .copy, [s, x] => match argTypes[0]?, argTypes[1]?, cOpd s, cOpd x with
    | some t, some _, some s, some x => match P.underlying t with
      | some (.slice e) => match P.info? e with
        | some i => some (.a (.copy i.size s x))
        | none => none
      | _ => none
    | _, _, _, _ => none
  | .delete, [m, k] => match delElem P argTypes, cOpd m, cOpd k with
    | some _, some m, some k => some (.a (.mdel m k))
    | _, _, _ => none
  | .min, x :: xs => match cOpd x, allSome cOpd xs with
    | some x, some xs => some (.p (.mm false x xs))
    | _, _ => none
  | .max, x :: xs => match cOpd x, allSome cOpd xs with
    | some x, some xs => some (.p (.mm true x xs))
    | _, _ => none
  | _, _ => none

def cOp (P : Program) (op : Op) : Option IOp :=
  match op with
  | .move x | .assign x => match cOpd x with | some x => some (.p (.mov x)) | none => none
  | .pick c a b => match cOpd c, cOpd a, cOpd b with | some c, some a, some b => some (.p (.pick c a b)) | _, _, _ => none
  | .alloc t => match zero? P t with | some z => some (.n (.new z t)) | none => none
  | .box t x => match cOpd x with | some x => some (.n (.box t x)) | none => none
  | .build t ps => match zero? P t, P.underlying t with
    | some z, some (.struct fs) => match allSome (fun (f : Field) => match size? P f.type with | some s => some (f.offset, s) | none => none) fs.toList with
      | some places => match cParts (fun i => places[i]?) ps.toList with | some q => some (.p (.build z q)) | none => none
      | none => none
    | some z, some (.array _ e) => match size? P e with
      | some s => match cParts (fun i => some (i * s, s)) ps.toList with | some q => some (.p (.build z q)) | none => none
      | none => none
    | _, _ => none
  | .buildSlice t n ps => match P.underlying t with
    | some (.slice e) => match size? P e, zero? P e with
      | some s, some z => cond (Nat.ble (n * s) 16777216 && Nat.beq z.length s)
          (match cParts (fun i => some (i * s, s)) ps.toList with | some q => some (.n (.lit e n s (repCells z n) q)) | none => none) none
      | _, _ => none
    | _ => none
  | .load t a => match loadKind P t, cOpd a with | some k, some a => some (.r (.load k a)) | _, _ => none
  | .store t a x => match size? P t, cOpd a, cOpd x with | some n, some a, some x => some (.a (.store n a x)) | _, _, _ => none
  | .nilCheck x => match cOpd x with | some x => some (.k x) | none => none
  | .binOp op t x y _ => cond (P.eqGuardType P.depth t && !(isIfaceB P t)) none <|
      match cOpd x, cOpd y with
      | some a, some b => some (.p (.bin op (binK P op t x y) a b))
      | _, _ => none
  | .unOp op _ x => match cOpd x with | some x => some (.p (.un op x)) | none => none
  | .convert s d x => match cOpd x, P.underlying s, P.underlying d with
    | some x, some _, some (.int k) => some (.p (.toInt k x))
    | some x, some .string, some .string => some (.p (.toStr x))
    | some x, some .string, some (.slice e) => match P.underlying e with
      | some (.int .u8) => some (.n (.s2b e x))
      | _ => none
    | some x, some (.slice e), some .string => match P.underlying e with
      | some (.int .u8) => some (.r (.b2s x))
      | _ => none
    | _, _, _ => none
  | .makeInterface t x => match P.underlying t, cOpd x with
    | some (.interface _), _ => none
    | some _, some x => some (.p (.ifc t x))
    | _, _ => none
  | .makeFunc f a c => match allSome cOpd a.toList, allSome cOpd c.toList with | some a, some c => some (.p (.fn f a c)) | _, _ => none
  | .makeMap _ none => some (.n .mkm)
  | .makeSlice t l c => match P.underlying t, cOpd l, cOpd c with
    | some (.slice e), some l, some c => match P.info? e, zero? P e with
      | some i, some z => cond (Nat.beq z.length i.size) (some (.n (.mks e i.size i.bytes z l c))) none
      | _, _ => none
    | _, _, _ => none
  | .slice t x lo hi mx => match P.underlying t, cOpd x, cOpt lo, cOpt hi, cOpt mx with
    | some (.array n e), some x, some lo, some hi, some mx => match size? P e with
      | some s => some (.r (.slP n s x lo hi mx))
      | none => none
    | some (.slice e), some x, some lo, some hi, some mx => match size? P e with
      | some s => some (.p (.slV s x lo hi mx))
      | none => none
    | some .string, some x, some lo, some hi, some none => some (.p (.slS x lo hi))
    | _, _, _, _, _ => none
  | .fieldAddr t x i => match P.underlying t, cOpd x with
    | some (.struct fs), some x => match fs[i]? with
      | some f => match size? P f.type with
        | some (_ + 1) => some (.p (.fieldA f.offset x))
        | _ => none
      | none => none
    | _, _ => none
  | .field t x i => match P.underlying t, cOpd x with
    | some (.struct fs), some x => match fs[i]? with
      | some f => match loadKind P f.type, size? P f.type with
        | some k, some s => some (.p (.field k.isSome f.offset s x))
        | _, _ => none
      | none => none
    | _, _ => none
  | .indexAddr t x i => match P.underlying t, cOpd x, cOpd i with
    | some (.array n e), some x, some i => match size? P e with
      | some s => some (.p (.idxA (some n) s x i))
      | none => none
    | some (.slice e), some x, some i => match size? P e with
      | some s => some (.p (.idxA none s x i))
      | none => none
    | _, _, _ => none
  | .index t x i => match P.underlying t, cOpd x, cOpd i with
    | some (.array n e), some x, some i => match loadKind P e, size? P e with
      | some k, some s => some (.p (.idx n k.isSome s x i))
      | _, _ => none
    | some .string, some x, some i => some (.p (.idxS x i))
    | _, _, _ => none
  | .extract x i => match cOpd x with | some x => some (.p (.extract x i)) | none => none
  | .lookup t m k ok => match mapElem P t, cOpd m, cOpd k with
    | some z, some m, some k => some (.r (.look z ok m k))
    | _, _, _ => none
  | .mapUpdate t m k x => match mapElem P t, cOpd m, cOpd k, cOpd x with
    | some _, some m, some k, some x => some (.a (.mset m k x))
    | _, _, _, _ => none
  | .call c => match c.callee with
    | .value (.func f) => match allSome cOpd c.args.toList with | some as => some (.c (.fn f as)) | none => none
    | .value x => match cOpd x, allSome cOpd c.args.toList with | some x, some as => some (.c (.val x as)) | _, _ => none
    | .invoke x m => match cOpd x, allSome cOpd c.args.toList with | some x, some as => some (.c (.inv x m as)) | _, _ => none
    | .builtin b => cBuiltin P b c.argTypes c.args.toList
  | _ => none

/-- An operation that the evaluator does not take stands as one that says nothing. -/
def IOp.none : IOp := .p (.chk (.v .nilp))

def cOper (P : Program) (ops : Array Oper) (o : Oper) : Option IOper :=
  match o.guard with
  | none => some { d := o.dst, g := Option.none, k := (cOp P o.op).getD IOp.none }
  | some (j, want) => match ops[j]? with
    | some oj => match oj.dst with
      | some t => some { d := o.dst, g := some (t, want), k := (cOp P o.op).getD IOp.none }
      | none => Option.none
    | none => Option.none

/-! ### A statement whose order is drawn -/
/-- Of each operation the operations that stand ahead of it in every order, as a number's bits. -/
def masks (acc : List Nat) : List Oper → List Nat
  | [] => acc
  | o :: os => masks (acc ++ [o.after.toList.foldl (fun s e => cond (Region.binds .any e) (s ||| 2 ^ e.on ||| acc.getD e.on 0) s) 0]) os

def IOp.heavy : IOp → Bool
  | .a _ | .c _ => true
  | _ => false
def IOp.looks : IOp → Bool
  | .p _ | .k _ => false
  | _ => true

def Opd.tmps : Opd → List Nat
  | .t i => [i]
  | .v _ => []

def IOp.opds : IOp → List Opd
  | .k x => [x]
  | .p o => match o with
    | .mov x | .chk x | .un _ x | .toInt _ x | .toStr x | .ifc _ x | .fieldA _ x | .field _ _ _ x | .extract x _ | .len x | .lenS x => [x]
    | .pick x y z => [x, y, z]
    | .bin _ _ x y | .idxA _ _ x y | .idxS x y | .idx _ _ _ x y => [x, y]
    | .fn _ xs ys => xs ++ ys
    | .build _ ps => ps.map (·.2.2)
    | .slV _ x lo hi mx => x :: (lo.toList ++ hi.toList ++ mx.toList)
    | .slS x lo hi => x :: (lo.toList ++ hi.toList)
    | .lenA _ => []
    | .mm _ x xs => x :: xs
  | .r o => match o with
    | .load _ x | .b2s x | .lenM x => [x]
    | .look _ _ x y => [x, y]
    | .slP _ _ x lo hi mx => x :: (lo.toList ++ hi.toList ++ mx.toList)
  | .n o => match o with
    | .new _ _ | .mkm => []
    | .box _ x | .s2b _ x => [x]
    | .lit _ _ _ _ ps => ps.map (·.2.2)
    | .mks _ _ _ _ x y => [x, y]
  | .a o => match o with
    | .store _ x y => [x, y]
    | .app _ _ _ x y | .copy _ x y | .mdel x y => [x, y]
    | .mset x y z => [x, y, z]
  | .c o => match o with
    | .fn _ xs => xs
    | .val x xs | .inv x _ xs => x :: xs

/-- The temporaries that an operation looks at. -/
def IOper.uses (o : IOper) : List Nat := (match o.g with | some (t, _) => [t] | none => []) ++ o.k.opds.flatMap Opd.tmps

/-- Is what 'i' says ahead of 'j' in every order? -/
def ahead (ms : List Nat) (i j : Nat) : Bool := (ms.getD j 0).testBit i

/-- An order in which the light ones stand as early as they can. -/
def early (ops : List (Oper × IOper)) : Nat → List Nat → List Nat
  | 0, done => done
  | n + 1, done =>
    let free := (List.range ops.length).filter fun i => !done.contains i && match ops[i]? with
      | some (o, _) => o.after.toList.all fun e => !Region.binds .any e || done.contains e.on
      | none => false
    match free.find? (fun i => match ops[i]? with | some (_, k) => !k.k.heavy | none => false) with
    | some i => early ops n (done ++ [i])
    | none => match free with
      | i :: _ => early ops n (done ++ [i])
      | [] => done

/-- Two operations, 'i' ahead of 'j' in the order that the evaluator takes: may every order be taken so? -/
def pairOk (ms : List Nat) (ci cj : IOper) (i j : Nat) : Bool :=
  (ahead ms i j || (!(ci.k.heavy && cj.k.looks))) &&
  (match cj.d with | some d => !(ci.uses.contains d) || (ahead ms i j && (ci.k.heavy || !(ci.k.looks))) | none => true) &&
  (match ci.d with | some d => (ahead ms i j || !(cj.uses.contains d)) && cj.d != some d | none => true)

def pairsOk (ms : List Nat) (ops : List IOper) : List Nat → Bool
  | [] => true
  | i :: is => is.all (fun j => match ops[i]?, ops[j]? with
    | some ci, some cj => pairOk ms ci cj i j && (ci.d == none || ci.d != cj.d)
    | _, _ => false) && pairsOk ms ops is

/-- Which of those ahead of a heavy one must say the same behind it. -/
def lates (ms : List Nat) (ops : List IOper) (pre : List Nat) (j : Nat) : List Nat :=
  match ops[j]? with
  | some cj => cond cj.k.heavy ((List.range pre.length).filter fun q => match pre[q]? with
    | some i => !(ahead ms i j) && (match ops[i]? with | some ci => ci.k.looks | none => false)
    | none => false) []
  | none => []

def dress (ms : List Nat) (ops : List IOper) : List Nat → List Nat → Option (List (IOper × List Nat))
  | _, [] => some []
  | pre, j :: js => match ops[j]?, dress ms ops (pre ++ [j]) js with
    | some cj, some r => some ((cj, lates ms ops pre j) :: r)
    | _, _ => none

def orderOk (ops : List Oper) (seen : List Nat) : List Nat → Bool
  | [] => true
  | j :: js => !seen.contains j && (match ops[j]? with
    | some o => o.after.toList.all fun e => !Region.binds .any e || seen.contains e.on
    | none => false) && orderOk ops (seen ++ [j]) js

/-- A light one that looks does not look at what it leaves itself. -/
def selfOk (c : IOper) : Bool := c.k.heavy || !c.k.looks || (match c.d with | some d => !(c.uses.contains d) | none => true)

def cDraw (P : Program) (ops : Array Oper) : Option ICode :=
  match allSome (cOper P ops) ops.toList with
  | none => none
  | some cs =>
    let ms := masks [] ops.toList
    let order := early (ops.toList.zip cs) ops.size []
    cond (Nat.beq order.length ops.size && (List.range ops.size).all (order.contains ·) && orderOk ops.toList [] order && pairsOk ms cs order && cs.all selfOk)
      (match dress ms cs [] order with | some r => some (.dreg r) | none => none) none

def cCode (P : Program) : Code → ICode
  | .skip => .skip
  | .ret => .ret
  | .exit id => .exit id
  | .seq a b => .seq (cCode P a) (cCode P b)
  | .cond c a b => match cOpd c with
    | some c => .cond c (cCode P a) (cCode P b)
    | none => .bad
  | .block id a => .block id (cCode P a)
  | .loop a => .loop (cCode P a)
  | .region _ ops false => match allSome (cOper P ops) ops.toList with
    | some cs => .reg cs
    | none => .bad
  | .region _ ops true => (cDraw P ops).getD .bad
  | _ => .bad

def cRes (P : Program) : ResultVar → Option IRes
  | .tmp t => some (.t t)
  | .cell a t => match loadKind P t with | some k => some (.cell a k) | none => none

def cFn (P : Program) (f : Nat) : Option IFn :=
  match P.funcs[f]? with
  | some fn => cond (fn.name == "runtime.NumGoroutine") none <| match fn.body, allSome (cRes P) fn.results.toList with
    | some c, some rs => some { nt := fn.ntmps, res := rs, body := cCode P c }
    | _, _ => none
  | none => none

/-- A method that a value has itself, called on that very value. -/
def methOk (P : Program) (t : TypeId) (name : String) (f : Nat) : Bool :=
  match P.info? t with
  | some i => match i.methods.find? (·.name == name) with
    | some m => m.path.isEmpty && (match m.func with
      | some (g, p) => Nat.beq f g && (match P.underlying t, p with
        | some (.pointer _), p => p
        | some _, p => !p
        | none, _ => false)
      | none => false)
    | none => false
  | none => false

end Go.Proofs.YtjldbkicpbchkaaGreat.Ev
