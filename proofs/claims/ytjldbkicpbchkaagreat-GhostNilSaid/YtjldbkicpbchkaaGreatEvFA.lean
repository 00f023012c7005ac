/-
  The evaluator's fast form, for runs by the kernel: every step is a small constant that takes values and a continuation. 'fcomp' makes it out of a function's form; EvFB shows that what it says the evaluator says.
-/
import Derived.Test.YtjldbkicpbchkaaGreatEvMA
namespace Go.Proofs.YtjldbkicpbchkaaGreat.Ev
open Go

abbrev R := Option (AV × AHeap)

noncomputable section

/-! ### Looking into values -/
def intE : AV → (IntKind → Int → R) → R := @AV.rec (fun _ => (IntKind → Int → R) → R) (fun _ => Unit)
  (fun _ _ => none) (fun i n k => k i n) (fun _ _ => none) (fun _ => none) (fun _ _ _ => none) (fun _ => none) (fun _ _ _ _ _ _ _ => none) (fun _ => none) (fun _ _ => none) (fun _ => none) (fun _ _ _ _ _ _ => none) (fun _ => none) (fun _ _ _ _ => none) (fun _ _ _ => none) (fun _ _ _ => none) () (fun _ _ _ _ => ())
def boolE : AV → (Bool → R) → R := @AV.rec (fun _ => (Bool → R) → R) (fun _ => Unit)
  (fun b k => k b) (fun _ _ _ => none) (fun _ _ => none) (fun _ => none) (fun _ _ _ => none) (fun _ => none) (fun _ _ _ _ _ _ _ => none) (fun _ => none) (fun _ _ => none) (fun _ => none) (fun _ _ _ _ _ _ => none) (fun _ => none) (fun _ _ _ _ => none) (fun _ _ _ => none) (fun _ _ _ => none) () (fun _ _ _ _ => ())
def ptrE : AV → (Nat → Nat → R) → R := @AV.rec (fun _ => (Nat → Nat → R) → R) (fun _ => Unit)
  (fun _ _ => none) (fun _ _ _ => none) (fun _ _ => none) (fun _ => none) (fun b o k => k b o) (fun _ => none) (fun _ _ _ _ _ _ _ => none) (fun _ => none) (fun _ _ => none) (fun _ => none) (fun _ _ _ _ _ _ => none) (fun _ => none) (fun _ _ _ _ => none) (fun _ _ _ => none) (fun _ _ _ => none) () (fun _ _ _ _ => ())
def slE : AV → (Nat → Nat → Nat → Nat → Nat → Bool → R) → R := @AV.rec (fun _ => (Nat → Nat → Nat → Nat → Nat → Bool → R) → R) (fun _ => Unit)
  (fun _ _ => none) (fun _ _ _ => none) (fun _ _ => none) (fun _ => none) (fun _ _ _ => none) (fun _ => none) (fun b o l c es ex k => k b o l c es ex) (fun _ => none) (fun _ _ => none) (fun _ => none) (fun _ _ _ _ _ _ => none) (fun _ => none) (fun _ _ _ _ => none) (fun _ _ _ => none) (fun _ _ _ => none) () (fun _ _ _ _ => ())
def aggE : AV → (List AV → R) → R := @AV.rec (fun _ => (List AV → R) → R) (fun _ => Unit)
  (fun _ _ => none) (fun _ _ _ => none) (fun _ _ => none) (fun _ => none) (fun _ _ _ => none) (fun _ => none) (fun _ _ _ _ _ _ _ => none) (fun _ => none) (fun _ _ => none) (fun _ => none) (fun _ _ _ _ _ _ => none) (fun _ => none) (fun _ _ _ _ => none) (fun cs _ k => k cs) (fun _ _ _ => none) () (fun _ _ _ _ => ())
def tupE : AV → (List AV → R) → R := @AV.rec (fun _ => (List AV → R) → R) (fun _ => Unit)
  (fun _ _ => none) (fun _ _ _ => none) (fun _ _ => none) (fun _ => none) (fun _ _ _ => none) (fun _ => none) (fun _ _ _ _ _ _ _ => none) (fun _ => none) (fun _ _ => none) (fun _ => none) (fun _ _ _ _ _ _ => none) (fun _ => none) (fun _ _ _ _ => none) (fun _ _ _ => none) (fun vs _ k => k vs) () (fun _ _ _ _ => ())

def boolB : Bool → (Unit → R) → (Unit → R) → R := @Bool.rec (fun _ => (Unit → R) → (Unit → R) → R) (fun _ f => f ()) (fun t _ => t ())

/-! ### Numbers, written out -/
def natK (n : Nat) (k : Nat → R) : R := @Nat.rec (fun _ => R) (k 0) (fun p _ => k (Nat.succ p)) n
def boolK (b : Bool) (k : AV → R) : R := @Bool.rec (fun _ => R) (k (.bool false)) (k (.bool true)) b
def kindN : IntKind → Nat := @IntKind.rec (fun _ => Nat) 0 1 2 3 4 5 6 7
def kindTop : IntKind → Nat := @IntKind.rec (fun _ => Nat) 128 32768 2147483648 9223372036854775808 256 65536 4294967296 18446744073709551616
def kindLow : IntKind → Nat := @IntKind.rec (fun _ => Nat) 128 32768 2147483648 9223372036854775808 0 0 0 0
def intC : Int → (Nat → R) → (Nat → R) → R := @Int.rec (fun _ => (Nat → R) → (Nat → R) → R) (fun m p _ => p m) (fun m _ q => q m)
/-- A number, as it stands. -/
def retI (i : IntKind) (n : Int) (k : AV → R) : R := intC n (fun m => natK m fun m => k (.int i (.ofNat m))) (fun m => natK m fun m => k (.int i (.negSucc m)))
/-- A number, made to fit. -/
def wrapK (i : IntKind) (n : Int) (k : AV → R) : R :=
  intC n (fun m => boolB (Nat.blt m (kindTop i)) (fun _ => natK m fun m => k (.int i (.ofNat m))) (fun _ => retI i (i.wrap n) k))
    (fun m => boolB (Nat.blt m (kindLow i)) (fun _ => natK m fun m => k (.int i (.negSucc m))) (fun _ => retI i (i.wrap n) k))
def intLt (a b : Int) (k : Bool → R) : R := intC a (fun m => intC b (fun n => k (Nat.blt m n)) fun _ => k false) (fun m => intC b (fun _ => k true) fun n => k (Nat.blt n m))
def intEq (a b : Int) (k : Bool → R) : R := intC a (fun m => intC b (fun n => k (Nat.beq m n)) fun _ => k false) (fun m => intC b (fun _ => k false) fun n => k (Nat.beq n m))

/-! ### Lists -/
def getK (E : List AV) : Nat → (AV → R) → R := @List.rec AV (fun _ => Nat → (AV → R) → R) (fun _ _ => none) (fun x _ ih i k => @Nat.rec (fun _ => R) (k x) (fun j _ => ih j k) i) E
def argK (E : List AV) : Nat → (AV → R) → R := @List.rec AV (fun _ => Nat → (AV → R) → R) (fun _ k => k .undef) (fun x _ ih i k => @Nat.rec (fun _ => R) (k x) (fun j _ => ih j k) i) E
def setK (E : List AV) : Nat → AV → (List AV → R) → R := @List.rec AV (fun _ => Nat → AV → (List AV → R) → R) (fun _ _ k => k []) (fun x xs ih i v k => @Nat.rec (fun _ => R) (k (v :: xs)) (fun j _ => ih j v fun l => k (x :: l)) i) E
def dropK (E : List AV) : Nat → (List AV → R) → R := @List.rec AV (fun _ => Nat → (List AV → R) → R) (fun _ k => k []) (fun x xs ih i k => @Nat.rec (fun _ => R) (k (x :: xs)) (fun j _ => ih j k) i) E
def takeK (E : List AV) : Nat → (List AV → R) → R := @List.rec AV (fun _ => Nat → (List AV → R) → R) (fun _ k => k []) (fun x _ ih i k => @Nat.rec (fun _ => R) (k []) (fun j _ => ih j fun l => k (x :: l)) i) E

/-! ### The heap -/
def optE : Option AObj → (AObj → R) → R := @Option.rec AObj (fun _ => (AObj → R) → R) (fun _ => none) (fun o k => k o)
def hgetT : HT → Nat → (AObj → R) → R := @HT.rec (fun _ => Nat → (AObj → R) → R) (fun _ _ => none) (fun v _ _ ihl ihr i k => @Nat.rec (fun _ => R) (optE v k) (fun j _ => boolB (Nat.beq (Nat.mod j 2) 0) (fun _ => ihl (Nat.div j 2) k) (fun _ => ihr (Nat.div j 2) k)) i)
def hputT : HT → Nat → AObj → (HT → R) → R := @HT.rec (fun _ => Nat → AObj → (HT → R) → R)
  (fun i o k => @Nat.rec (fun _ => R) (k (.nd (some o) .lf .lf)) (fun j _ => k (HT.put (j + 2) .lf (j + 1) o)) i)
  (fun v l r ihl ihr i o k => @Nat.rec (fun _ => R) (k (.nd (some o) l r)) (fun j _ => boolB (Nat.beq (Nat.mod j 2) 0) (fun _ => ihl (Nat.div j 2) o fun l' => k (.nd v l' r)) (fun _ => ihr (Nat.div j 2) o fun r' => k (.nd v l r'))) i)
def heapE : AHeap → (Nat → HT → R) → R := @AHeap.rec (fun _ => (Nat → HT → R) → R) (fun n t k => k n t)
def hget (h : AHeap) (b : Nat) (k : AObj → R) : R := heapE h fun _ t => hgetT t b k
def hset (h : AHeap) (b : Nat) (o : AObj) (k : AHeap → R) : R := heapE h fun n t => hputT t b o fun t' => k ⟨n, t'⟩
def hpush (h : AHeap) (o : AObj) (k : Nat → AHeap → R) : R := heapE h fun n t => hputT t n o fun t' => natK (Nat.succ n) fun m => k n ⟨m, t'⟩
def cellsE : AObj → (List AV → TypeId → Bool → Bool → List Nat → R) → R := @AObj.rec (fun _ => (List AV → TypeId → Bool → Bool → List Nat → R) → R) (fun cs ty ro sh kin k => k cs ty ro sh kin) (fun _ _ => none) (fun _ => none)
def hforce (h : AHeap) (k : AHeap → R) : R := heapE h fun n t => natK n fun n => k ⟨n, t⟩

/-! ### Operations on values -/
def genK (o : Option AV) (k : AV → R) : R := @Option.rec AV (fun _ => R) none (fun v => k v) o
def binG (op : BinOp) (ek : EK) (x y : AV) (k : AV → R) : R := genK (binEv op ek x y) k
/-- Both are whole numbers of one kind; else the long way. -/
def intsK (op : BinOp) (ek : EK) (x y : AV) (k : AV → R) (f : IntKind → Int → Int → R) : R :=
  @AV.rec (fun _ => R) (fun _ => Unit)
    (fun _ => binG op ek x y k) (fun i a => intE y fun j b => boolB (Nat.beq (kindN i) (kindN j)) (fun _ => f i a b) (fun _ => none)) (fun _ => binG op ek x y k) (binG op ek x y k) (fun _ _ => binG op ek x y k) (binG op ek x y k)
    (fun _ _ _ _ _ _ => binG op ek x y k) (binG op ek x y k) (fun _ => binG op ek x y k) (binG op ek x y k) (fun _ _ _ _ _ => binG op ek x y k) (binG op ek x y k) (fun _ _ _ => binG op ek x y k) (fun _ _ => binG op ek x y k) (fun _ _ => binG op ek x y k) () (fun _ _ _ _ => ()) x
def addK (ek : EK) (x y : AV) (k : AV → R) : R := intsK .add ek x y k fun i a b => wrapK i (Int.add a b) k
def subK (ek : EK) (x y : AV) (k : AV → R) : R := intsK .sub ek x y k fun i a b => wrapK i (Int.sub a b) k
def mulK (ek : EK) (x y : AV) (k : AV → R) : R := intsK .mul ek x y k fun i a b => wrapK i (Int.mul a b) k
def lssK (ek : EK) (x y : AV) (k : AV → R) : R := intsK .lss ek x y k fun _ a b => intLt a b fun t => boolK t k
def gtrK (ek : EK) (x y : AV) (k : AV → R) : R := intsK .gtr ek x y k fun _ a b => intLt b a fun t => boolK t k
def leqK (ek : EK) (x y : AV) (k : AV → R) : R := intsK .leq ek x y k fun _ a b => intLt b a fun t => boolK (Bool.not t) k
def geqK (ek : EK) (x y : AV) (k : AV → R) : R := intsK .geq ek x y k fun _ a b => intLt a b fun t => boolK (Bool.not t) k
def eqlK (ek : EK) (x y : AV) (k : AV → R) : R := intsK .eql ek x y k fun _ a b => intEq a b fun t => boolK t k
def neqK (ek : EK) (x y : AV) (k : AV → R) : R := intsK .neq ek x y k fun _ a b => intEq a b fun t => boolK (Bool.not t) k
/-- A result of the long way, written out where it is a number or a truth. -/
def outK (v : AV) (k : AV → R) : R :=
  @AV.rec (fun _ => R) (fun _ => Unit)
    (fun b => boolK b k) (fun i n => retI i n k) (fun _ => k v) (k v) (fun _ _ => k v) (k v) (fun _ _ _ _ _ _ => k v) (k v) (fun _ => k v) (k v) (fun _ _ _ _ _ => k v) (k v) (fun _ _ _ => k v) (fun _ _ => k v) (fun _ _ => k v) () (fun _ _ _ _ => ()) v
def binO (op : BinOp) (ek : EK) (x y : AV) (k : AV → R) : R := genK (binEv op ek x y) fun v => outK v k
def binF (op : BinOp) : EK → AV → AV → (AV → R) → R :=
  match op with
  | .add => addK | .sub => subK | .mul => mulK | .lss => lssK | .gtr => gtrK | .leq => leqK | .geq => geqK | .eql => eqlK | .neq => neqK
  | op => binO op
def pickK (c a b : AV) (k : AV → R) : R := boolE c fun t => boolB t (fun _ => k a) (fun _ => k b)
def fieldAK (off : Nat) (x : AV) (k : AV → R) : R := ptrE x fun b o => natK (Nat.add o off) fun o => k (.ptr b o)
def extractK (x : AV) (i : Nat) (k : AV → R) : R := tupE x fun vs => getK vs i k
def idxNatK (i : AV) (k : Nat → R) : R := intE i fun _ n => intC n (fun m => k m) (fun _ => none)
def idxSlK (es : Nat) (x i : AV) (k : AV → R) : R := slE x fun b o ln _ es' _ => idxNatK i fun j => boolB (Nat.blt j ln) (fun _ => boolB (Nat.beq es es') (fun _ => natK (Nat.add o (Nat.mul j es)) fun o => k (.ptr b o)) fun _ => none) fun _ => none
def notK (x : AV) (k : AV → R) : R := boolE x fun b => boolK (Bool.not b) k

/-! ### Operations on the heap -/
def loadK (x : AV) (h : AHeap) (k : AV → R) : R := ptrE x fun b o => hget h b fun ob => cellsE ob fun cs _ _ _ _ => getK cs o k
def loadsK (n : Nat) (x : AV) (h : AHeap) (k : AV → R) : R := ptrE x fun b o => hget h b fun ob => cellsE ob fun cs _ _ _ _ =>
  boolB (Nat.ble (Nat.add o n) (List.length cs)) (fun _ => dropK cs o fun cs => takeK cs n fun cs => k (.agg cs)) fun _ => none

def genHK (o : Option (AV × AHeap)) (k : AV → AHeap → R) : R := @Option.rec (AV × AHeap) (fun _ => R) none (fun p => @Prod.rec AV AHeap (fun _ => R) (fun v h => k v h) p) o
def genN (o : Option (AObj × (Nat → AV))) (h : AHeap) (k : AV → AHeap → R) : R := @Option.rec _ (fun _ => R) none (fun p => @Prod.rec AObj (Nat → AV) (fun _ => R) (fun ob mk => hpush h ob fun n h' => k (mk n) h') p) o
/-- One cell is written, if it is there. -/
def putK (E : List AV) : Nat → AV → (List AV → R) → R := @List.rec AV (fun _ => Nat → AV → (List AV → R) → R) (fun _ _ _ => none) (fun x xs ih i v k => @Nat.rec (fun _ => R) (k (v :: xs)) (fun j _ => ih j v fun l => k (x :: l)) i) E
def nilE (l : List Nat) (k : R) (f : Unit → R) : R := @List.rec Nat (fun _ => R) k (fun _ _ _ => f ()) l
def storeG (n : Nat) (a x : AV) (h : AHeap) (k : AV → AHeap → R) : R := genHK (AOp.run [] h (.store n (.v a) (.v x))) fun v h' => hforce h' (k v)
def oneB : AV → Bool := @AV.rec (fun _ => Bool) (fun _ => Unit)
  (fun _ => true) (fun _ _ => true) (fun _ => true) true (fun _ _ => true) true (fun _ _ _ _ _ _ => true) true (fun _ => true) true (fun _ _ _ _ _ => true) true (fun _ _ _ => true) (fun _ _ => false) (fun _ _ => false) () (fun _ _ _ _ => ())
def storeK (n : Nat) (a x : AV) (h : AHeap) (k : AV → AHeap → R) : R :=
  boolB (and (Nat.beq n 1) (oneB x))
    (fun _ => ptrE a fun b o => hget h b fun ob => cellsE ob fun cs ty ro sh kin => boolB ro (fun _ => none) fun _ => nilE kin (putK cs o x fun cs => hset h b (.cells cs ty false sh []) fun h => k .undef h) (fun _ => storeG n a x h k))
    (fun _ => storeG n a x h k)

/-! ### From the form of a function -/
abbrev Ro := List (Nat × AV)
def lookR (ρ : Ro) (i : Nat) : Option AV := @List.rec (Nat × AV) (fun _ => Option AV) none (fun p _ ih => @Prod.rec Nat AV (fun _ => Option AV) (fun j v => cond (Nat.beq j i) (some v) ih) p) ρ
def vpos (vars : List Nat) (i : Nat) : Option Nat := @List.rec Nat (fun _ => Nat → Option Nat) (fun _ => none) (fun j _ ih k => cond (Nat.beq j i) (some k) (ih (Nat.succ k))) vars 0
def rdT (vars : List Nat) (ρ : Ro) (E : List AV) (i : Nat) (k : AV → R) : R :=
  @Option.rec AV (fun _ => R) (@Option.rec Nat (fun _ => R) none (fun j => getK E j k) (vpos vars i)) k (lookR ρ i)
def rdK (vars : List Nat) (ρ : Ro) (E : List AV) (x : Opd) (k : AV → R) : R := @Opd.rec (fun _ => R) (fun i => rdT vars ρ E i k) (fun v => k v) x

abbrev Rd := Opd → (AV → R) → R
def rdL (rd : Rd) (xs : List Opd) : (List AV → R) → R := @List.rec Opd (fun _ => (List AV → R) → R) (fun k => k []) (fun x _ ih k => rd x fun v => ih fun vs => k (v :: vs)) xs
def rdLV (rd : Rd) (xs : List Opd) : (List Opd → R) → R := @List.rec Opd (fun _ => (List Opd → R) → R) (fun k => k []) (fun x _ ih k => rd x fun v => ih fun vs => k (.v v :: vs)) xs
def rdPV (rd : Rd) (xs : List (Nat × Nat × Opd)) : (List (Nat × Nat × Opd) → R) → R :=
  @List.rec (Nat × Nat × Opd) (fun _ => (List (Nat × Nat × Opd) → R) → R) (fun k => k []) (fun p _ ih k => rd p.2.2 fun v => ih fun vs => k ((p.1, p.2.1, .v v) :: vs)) xs
def rdO (rd : Rd) (x : Option Opd) (k : Option Opd → R) : R := @Option.rec Opd (fun _ => R) (k none) (fun x => rd x fun v => k (some (.v v))) x

/-- The long way: the operands are read, and the operation is taken as it is. -/
def pG (o : POp) (k : AV → R) : R := genK (o.run []) fun v => outK v k
def pC (rd : Rd) (o : POp) (k : AV → R) : R :=
  match o with
  | .mov x => rd x k
  | .chk x => rd x fun x => pG (.chk (.v x)) k
  | .pick c a b => rd c fun c => rd a fun a => rd b fun b => pickK c a b k
  | .bin op ek x y => rd x fun x => rd y fun y => binF op ek x y k
  | .un .not x => rd x fun x => notK x k
  | .un op x => rd x fun x => pG (.un op (.v x)) k
  | .toInt i x => rd x fun x => pG (.toInt i (.v x)) k
  | .toStr x => rd x fun x => pG (.toStr (.v x)) k
  | .ifc t x => rd x fun x => k (.ifc t x)
  | .fn f a c => rdL rd a fun a => rdL rd c fun c => k (.fn f a c)
  | .build z ps => rdPV rd ps fun ps => pG (.build z ps) k
  | .fieldA off x => rd x fun x => fieldAK off x k
  | .field ag off size x => rd x fun x => pG (.field ag off size (.v x)) k
  | .idxA (some n) es x i => rd x fun x => rd i fun i => pG (.idxA (some n) es (.v x) (.v i)) k
  | .idxA none es x i => rd x fun x => rd i fun i => idxSlK es x i k
  | .idxS x i => rd x fun x => rd i fun i => pG (.idxS (.v x) (.v i)) k
  | .idx ln ag es x i => rd x fun x => rd i fun i => pG (.idx ln ag es (.v x) (.v i)) k
  | .extract x i => rd x fun x => extractK x i k
  | .slV es x lo hi mx => rd x fun x => rdO rd lo fun lo => rdO rd hi fun hi => rdO rd mx fun mx => pG (.slV es (.v x) lo hi mx) k
  | .slS x lo hi => rd x fun x => rdO rd lo fun lo => rdO rd hi fun hi => pG (.slS (.v x) lo hi) k
  | .lenS x => rd x fun x => pG (.lenS (.v x)) k
  | .len x => rd x fun x => pG (.len (.v x)) k
  | .lenA n => k (.int .i64 n)
  | .mm mx x xs => rd x fun x => rdLV rd xs fun xs => pG (.mm mx (.v x) xs) k
def rG (o : ROp) (h : AHeap) (k : AV → R) : R := genK (o.run [] h) fun v => outK v k
def rC (rd : Rd) (h : AHeap) (o : ROp) (k : AV → R) : R :=
  match o with
  | .load none x => rd x fun x => loadK x h k
  | .load (some n) x => rd x fun x => loadsK n x h k
  | .b2s x => rd x fun x => rG (.b2s (.v x)) h k
  | .slP n es x lo hi mx => rd x fun x => rdO rd lo fun lo => rdO rd hi fun hi => rdO rd mx fun mx => rG (.slP n es (.v x) lo hi mx) h k
  | .look z ok m x => rd m fun m => rd x fun x => rG (.look z ok (.v m) (.v x)) h k
  | .lenM m => rd m fun m => rG (.lenM (.v m)) h k
def nC (rd : Rd) (h : AHeap) (o : NOp) (k : AV → AHeap → R) : R :=
  match o with
  | .new z ty => hpush h (.cells z ty false true []) fun n h => k (.ptr n 0) h
  | .box ty x => rd x fun x => genN (NOp.run [] (.box ty (.v x))) h k
  | .lit ty ln es z ps => rdPV rd ps fun ps => genN (NOp.run [] (.lit ty ln es z ps)) h k
  | .mks ty es by' z l c => rd l fun l => rd c fun c => genN (NOp.run [] (.mks ty es by' z (.v l) (.v c))) h k
  | .s2b ty x => rd x fun x => genN (NOp.run [] (.s2b ty (.v x))) h k
  | .mkm => hpush h (.map []) fun n h => k (.map n) h
def aG (o : AOp) (h : AHeap) (k : AV → AHeap → R) : R := genHK (o.run [] h) fun v h => hforce h fun h => outK v fun v => k v h
def aC (rd : Rd) (h : AHeap) (o : AOp) (k : AV → AHeap → R) : R :=
  match o with
  | .store n a x => rd a fun a => rd x fun x => storeK n a x h k
  | .app ty es by' s x => rd s fun s => rd x fun x => aG (.app ty es by' (.v s) (.v x)) h k
  | .copy es s x => rd s fun s => rd x fun x => aG (.copy es (.v s) (.v x)) h k
  | .mset m n x => rd m fun m => rd n fun n => rd x fun x => aG (.mset (.v m) (.v n) (.v x)) h k
  | .mdel m n => rd m fun m => rd n fun n => aG (.mdel (.v m) (.v n)) h k
def cC (S : ASys) (call : CallF) (rd : Rd) (h : AHeap) (o : COp) (k : AV → AHeap → R) : R :=
  match o with
  | .fn f xs => rdL rd xs fun vs => genHK (call f vs h) k
  | .val x xs => rd x fun x => rdL rd xs fun vs => genHK (valCall call x vs h) k
  | .inv x m xs => rd x fun x => rdLV rd xs fun vs => genHK (COp.run S call [] h (.inv (.v x) m vs)) k
def oC (S : ASys) (call : CallF) (rd : Rd) (h : AHeap) (o : IOp) (k : AV → AHeap → R) : R :=
  match o with
  | .p o => pC rd o fun v => k v h
  | .k x => rd x fun x => genK (chkRun S x) fun v => k v h
  | .r o => rC rd h o fun v => k v h
  | .n o => nC rd h o k
  | .a o => aC rd h o k
  | .c o => cC S call rd h o k

/-- What comes of an operation. -/
def binding (vars : List Nat) (nt : Nat) (d : Option Nat) (ρ : Ro) (E : List AV) (v : AV) (k : Ro → List AV → R) : R :=
  match d with
  | none => k ρ E
  | some d => cond (Nat.blt d nt) (match vpos vars d with
    | none => k ((d, v) :: ρ) E
    | some j => setK E j v fun E => k ((d, v) :: ρ) E) none
def guarded (rd : Rd) (g : Option (Nat × Bool)) (yes no : Unit → R) : R :=
  match g with
  | none => yes ()
  | some (t, want) => rd (.t t) fun v => boolE v fun b => boolB want (fun _ => boolB b yes no) (fun _ => boolB b no yes)
def stepC (S : ASys) (call : CallF) (vars : List Nat) (nt : Nat) (o : IOper) (ρ : Ro) (E : List AV) (h : AHeap) (k : Ro → List AV → AHeap → R) : R :=
  guarded (rdK vars ρ E) o.g (fun _ => oC S call (rdK vars ρ E) h o.k fun v h => binding vars nt o.d ρ E v fun ρ E => k ρ E h) (fun _ => binding vars nt o.d ρ E .undef fun ρ E => k ρ E h)
def opsC (S : ASys) (call : CallF) (vars : List Nat) (nt : Nat) (os : List IOper) : Ro → List AV → AHeap → (List AV → AHeap → R) → R :=
  @List.rec IOper (fun _ => Ro → List AV → AHeap → (List AV → AHeap → R) → R) (fun _ E h k => k E h) (fun o _ ih ρ E h k => stepC S call vars nt o ρ E h fun ρ E h => ih ρ E h k) os

/-- A read, or a new block, is looked at again. -/
def againC (vars : List Nat) (ρ : Ro) (E : List AV) (h : AHeap) (o : IOper) (k : Unit → R) : R :=
  guarded (rdK vars ρ E) o.g (fun _ => match o.k, o.d with
    | .r r, some d => rC (rdK vars ρ E) h r fun v => rdT vars ρ E d fun w => boolB (AV.beq v w) k fun _ => none
    | .n m, some d => rdT vars ρ E d fun w => nRd (rdK vars ρ E) m fun m => boolB (again { d := some 0, g := none, k := .n m } [w] h) k fun _ => none
    | _, _ => none) k
 where
  nRd (rd : Rd) (o : NOp) (k : NOp → R) : R :=
    match o with
    | .new z ty => k (.new z ty)
    | .box ty x => rd x fun x => k (.box ty (.v x))
    | .lit ty ln es z ps => rdPV rd ps fun ps => k (.lit ty ln es z ps)
    | .mks ty es by' z l c => rd l fun l => rd c fun c => k (.mks ty es by' z (.v l) (.v c))
    | .s2b ty x => rd x fun x => k (.s2b ty (.v x))
    | .mkm => k .mkm
def againsC (vars : List Nat) (all : List (IOper × List Nat)) (is : List Nat) (ρ : Ro) (E : List AV) (h : AHeap) (k : Unit → R) : R :=
  @List.rec Nat (fun _ => R) (k ()) (fun i _ ih => match all[i]? with
    | some (o, _) => againC vars ρ E h o fun _ => ih
    | none => none) is
def opsD (S : ASys) (call : CallF) (vars : List Nat) (nt : Nat) (all os : List (IOper × List Nat)) : Ro → List AV → AHeap → (List AV → AHeap → R) → R :=
  @List.rec (IOper × List Nat) (fun _ => Ro → List AV → AHeap → (List AV → AHeap → R) → R) (fun _ E h k => k E h)
    (fun o _ ih ρ E h k => stepC S call vars nt o.1 ρ E h fun ρ E h => againsC vars all o.2 ρ E h fun _ => ih ρ E h k) os

abbrev Kn := List AV → AHeap → R
def codeC (S : ASys) (call : CallF) (vars : List Nat) (nt fuel : Nat) (c : ICode) : Kn → Kn → (Nat → Kn) → Kn :=
  @ICode.rec (fun _ => Kn → Kn → (Nat → Kn) → Kn)
    (fun kn _ _ => kn)
    (fun _ kr _ => kr)
    (fun id _ _ kx => kx id)
    (fun _ _ iha ihb kn kr kx => iha (ihb kn kr kx) kr kx)
    (fun c _ _ iha ihb kn kr kx E h => rdK vars [] E c fun v => boolE v fun b => boolB b (fun _ => iha kn kr kx E h) (fun _ => ihb kn kr kx E h))
    (fun id _ iha kn kr kx => iha kn kr fun i => cond (Nat.beq i id) kn (kx i))
    (fun _ iha _ kr kx => @Nat.rec (fun _ => Kn) (fun _ _ => none) (fun _ again => iha again kr kx) fuel)
    (fun ops kn _ _ E h => opsC S call vars nt ops [] E h kn)
    (fun ops kn _ _ E h => opsD S call vars nt ops ops [] E h kn)
    (fun _ _ _ _ _ => none) c

def resC (vars : List Nat) (E : List AV) (h : AHeap) (rs : List IRes) : (List AV → R) → R :=
  @List.rec IRes (fun _ => (List AV → R) → R) (fun k => k []) (fun r _ ih k => @IRes.rec (fun _ => R) (fun i => rdT vars [] E i fun v => ih fun vs => k (v :: vs)) (fun a ag => rdT vars [] E a fun x => rC (fun o k => @Opd.rec (fun _ => R) (fun _ => none) k o) h (.load ag (.v x)) fun v => ih fun vs => k (v :: vs)) r) rs
def oneOr (vs : List AV) : AV := match vs with | [v] => v | vs => .tup vs
def initC (vars : List Nat) (args : List AV) : (List AV → R) → R := @List.rec Nat (fun _ => (List AV → R) → R) (fun k => k []) (fun i _ ih k => argK args i fun v => ih fun E => k (v :: E)) vars

/-- A function. -/
def fcomp (S : ASys) (fuel : Nat) (vars : List Nat) (f : IFn) (call : CallF) (args : List AV) (h : AHeap) : R :=
  initC vars args fun E =>
    codeC S call vars f.nt fuel f.body (fun E h => resC vars E h f.res fun vs => some (oneOr vs, h)) (fun E h => resC vars E h f.res fun vs => some (oneOr vs, h)) (fun _ _ _ => none) E h

/-- A table of functions. -/
inductive FT where
  | lf
  | nd (v : Option (CallF → List AV → AHeap → R)) (l r : FT)
def FT.get (t : FT) : Nat → Option (CallF → List AV → AHeap → R) := @FT.rec (fun _ => Nat → Option (CallF → List AV → AHeap → R)) (fun _ => none) (fun v _ _ ihl ihr i => @Nat.rec (fun _ => Option (CallF → List AV → AHeap → R)) v (fun j _ => cond (Nat.beq (Nat.mod j 2) 0) (ihl (Nat.div j 2)) (ihr (Nat.div j 2))) i) t

def fcall (S : ASys) (t : FT) (n : Nat) : CallF := @Nat.rec (fun _ => CallF) (fun _ _ _ => none) (fun _ ih f args h =>
  @Option.rec _ (fun _ => R) (@Option.rec (CallF → List AV → AHeap → R) (fun _ => R) none (fun F => F ih args h) (t.get f)) (fun s => s args h) (S.sum f)) n
end

end Go.Proofs.YtjldbkicpbchkaaGreat.Ev
