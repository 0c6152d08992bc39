import Derived.Orders
import Derived.LoopN
/- An evaluator of the program's code over abstract values and an abstract memory: definitions alone. -/
namespace Go.X
open Go

/-- Abstract values: addresses name blocks of the abstract memory. -/
inductive AV where
  | bool (b : Bool)
  | int (k : IntKind) (n : Int)
  | str (s : ByteArray)
  | ptr (b o : Nat)
  | nilp
  | sl (b o len cap : Nat)
  | sg (b o len z : Nat)
  | nils
  | mp (b : Nat)
  | nilm
  | fn (f : Fn) (first captured : List AV)
  | nilf
  | iface (t : TypeId) (v : AV)
  | nili
  | agg (l : List AV)
  | tup (l : List AV)

inductive BM where
  | own | grown | ro

inductive ABlk where
  | row (m : BM) (elem : TypeId) (cells : List AV)
  | dead

def AV.undef : AV := .tup []
def AV.cells : AV → List AV
  | .agg l => l
  | v => [v]

noncomputable section
-- RAW BEGIN
def nth {α : Type} (l : List α) : Nat → Option α :=
  List.rec (motive := fun _ => Nat → Option α) (fun _ => none) (fun x _ ih n => Nat.rec (motive := fun _ => Option α) (some x) (fun m _ => ih m) n) l
def setn {α : Type} (l : List α) : Nat → α → List α :=
  List.rec (motive := fun _ => Nat → α → List α) (fun _ _ => []) (fun x r ih n v => Nat.rec (motive := fun _ => List α) (v :: r) (fun m _ => x :: ih m v) n) l
def takeR {α : Type} (l : List α) : Nat → Option (List α) :=
  List.rec (motive := fun _ => Nat → Option (List α)) (fun n => Nat.rec (motive := fun _ => Option (List α)) (some []) (fun _ _ => none) n)
    (fun x _ ih n => Nat.rec (motive := fun _ => Option (List α)) (some []) (fun m _ => Option.rec (motive := fun _ => Option (List α)) none (fun t => some (x :: t)) (ih m)) n) l
def dropR {α : Type} (l : List α) : Nat → List α :=
  List.rec (motive := fun _ => Nat → List α) (fun _ => []) (fun x r ih n => Nat.rec (motive := fun _ => List α) (x :: r) (fun m _ => ih m) n) l
def appR {α : Type} (l m : List α) : List α := List.rec (motive := fun _ => List α) m (fun x _ ih => x :: ih) l
def lenR {α : Type} (l : List α) : Nat := List.rec (motive := fun _ => Nat) 0 (fun _ _ ih => Nat.succ ih) l
def mapR {α β : Type} (f : α → β) (l : List α) : List β := List.rec (motive := fun _ => List β) [] (fun x _ ih => f x :: ih) l
def allR {α : Type} (f : α → Bool) (l : List α) : Bool := List.rec (motive := fun _ => Bool) true (fun x _ ih => cond (f x) ih false) l
def fzSp {α : Type} (fc : Bool) (l : List α) (k : List α → Prop) : Prop :=
  cond fc (List.rec (motive := fun _ => (List α → Prop) → Prop) (fun k => k []) (fun x _ ih k => ih fun t => k (x :: t)) l k) (k l)
def fzN (m : Nat) (k : Nat → Prop) : Prop := match m with
  | 0 => k 0
  | p + 1 => k (p + 1)
def fzI (n : Int) (k : Int → Prop) : Prop := match n with
  | .ofNat m => fzN m fun m => k (.ofNat m)
  | .negSucc m => fzN m fun m => k (.negSucc m)
def fz1 (v : AV) (k : AV → Prop) : Prop := match v with
  | .int kd n => fzI n fun n => k (.int kd n)
  | .bool b => cond b (k (.bool true)) (k (.bool false))
  | .ptr b o => fzN b fun b => fzN o fun o => k (.ptr b o)
  | .sl b o l c => fzN b fun b => fzN o fun o => fzN l fun l => fzN c fun c => k (.sl b o l c)
  | .sg b o l z => fzN b fun b => fzN o fun o => fzN l fun l => fzN z fun z => k (.sg b o l z)
  | v => k v
def fzL1 (l : List AV) (k : List AV → Prop) : Prop :=
  List.rec (motive := fun _ => (List AV → Prop) → Prop) (fun k => k []) (fun x _ ih k => fz1 x fun x => ih fun t => k (x :: t)) l k
def compL (nt : Nat) (T : Nat → AV) : List AV → (List AV → Prop) → Prop :=
  Nat.rec (motive := fun _ => List AV → (List AV → Prop) → Prop) (fun acc k => k acc) (fun m ih acc k => fz1 (T m) fun v => ih (v :: acc) k) nt
-- RAW END
def fzV (fc : Bool) (v : AV) (k : AV → Prop) : Prop := cond fc (match v with
  | .int kd n => fz1 (.int kd n) k
  | .bool b => fz1 (.bool b) k
  | .ptr b o => fz1 (.ptr b o) k
  | .sl b o l c => fz1 (.sl b o l c) k
  | .sg b o l z => fz1 (.sg b o l z) k
  | .agg l => fzL1 l fun l => k (.agg l)
  | .tup l => fzSp true l fun l => k (.tup l)
  | v => k v) (match v with
  | .int kd n => k (.int kd n)
  | .bool b => k (.bool b)
  | v => k v)

/-- The abstract memory: its blocks, the newest first. -/
structure HP where
  n : Nat
  l : List ABlk
def HP.get (H : HP) (i : Nat) : Option ABlk := cond (Nat.ble H.n i) none (nth H.l (H.n - 1 - i))
def HP.push (H : HP) (b : ABlk) : HP := ⟨H.n + 1, b :: H.l⟩
def HP.set (H : HP) (i : Nat) (b : ABlk) : HP := ⟨H.n, setn H.l (H.n - 1 - i) b⟩
def HP.trim (H : HP) (m : Nat) : HP := ⟨m, dropR H.l (H.n - m)⟩

/-- No address in it. -/
def AV.plain1 : AV → Bool
  | .bool _ | .int _ _ | .str _ | .nilp | .nils | .nilm | .nilf | .nili => true
  | _ => false
def AV.plain2 : AV → Bool
  | .agg l => allR AV.plain1 l
  | v => v.plain1
def AV.plain : AV → Bool
  | .tup l => allR AV.plain2 l
  | v => v.plain2

def ofVal1 : Value → Option AV
  | .bool b => some (.bool b)
  | .int k n => some (.int k n)
  | .string s => some (.str s)
  | .pointer none => some .nilp
  | .slice none l c => cond (Nat.beq l 0) (cond (Nat.beq c 0) (some .nils) none) none
  | .map none => some .nilm
  | .nilFunc => some .nilf
  | .nilIface => some .nili
  | _ => none
def ofVals : List Value → Option (List AV)
  | [] => some []
  | v :: r => match ofVal1 v with
    | some x => match ofVals r with
      | some l => some (x :: l)
      | none => none
    | none => none
def ofVal : Value → Option AV
  | .agg cs => match ofVals cs.toList with
    | some l => some (.agg l)
    | none => none
  | .tuple cs => match ofVals cs.toList with
    | some l => some (.tup l)
    | none => none
  | v => ofVal1 v

def ev (T : Nat → AV) : Operand → Option AV
  | .tmp t => some (T t)
  | .const v => ofVal v
  | .global _ => none
  | .func f => some (.fn (.func f) [] [])

def evs (T : Nat → AV) : List Operand → Option (List AV)
  | [] => some []
  | x :: r => match ev T x with
    | some v => match evs T r with
      | some l => some (v :: l)
      | none => none
    | none => none

-- UPD
def upd (T : Nat → AV) (d : Nat) (v : AV) : Nat → AV := fun i => Bool.rec (motive := fun _ => AV) (T i) v (Nat.beq i d)
def yieldedA (ops : List Oper) (T : Nat → AV) (j : Nat) : Option Bool :=
  match nth ops j with
  | some o => match o.dst with
    | some d => match T d with
      | .bool b => some b
      | _ => none
    | none => none
  | none => none

def wantedA (ops : List Oper) (T : Nat → AV) (o : Oper) : Bool :=
  match o.guard with
  | none => true
  | some (j, want) => match yieldedA ops T j with
    | some b => cond want b (!b)
    | none => false

def bitI (op : BinOp) (k : IntKind) (x y : Int) : Option Int :=
  match op with
  | .and => some (k.wrap (BitVec.ofInt k.bits x &&& BitVec.ofInt k.bits y).toNat)
  | .or => some (k.wrap (BitVec.ofInt k.bits x ||| BitVec.ofInt k.bits y).toNat)
  | .xor => some (k.wrap (BitVec.ofInt k.bits x ^^^ BitVec.ofInt k.bits y).toNat)
  | .andNot => some (k.wrap (BitVec.ofInt k.bits x &&& ~~~ (BitVec.ofInt k.bits y)).toNat)
  | _ => none

def zeroOf (P : Program) (t : TypeId) : Option AV :=
  match P.info? t with
  | some i => match i.zero with
    | some v => ofVal v
    | none => none
  | none => none
def sizeOfA (P : Program) (t : TypeId) : Option Nat :=
  match P.info? t with
  | some i => some i.size
  | none => none
def isAggA (P : Program) (t : TypeId) : Option Bool :=
  match P.underlying t with
  | some (.struct _) => some true
  | some (.array _ _) => some true
  | some _ => some false
  | none => none

/-- What is asked of a fact that may be open. -/
-- NEED
def need (b : Bool) (p : Prop) : Prop := Bool.rec (motive := fun _ => Prop) False p b

def kno : IntKind → Nat
  | .i8 => 0 | .i16 => 1 | .i32 => 2 | .i64 => 3 | .u8 => 4 | .u16 => 5 | .u32 => 6 | .u64 => 7

def eqPtrA (P : Program) (t : TypeId) (op : BinOp) (r : Bool) (K : AV → Prop) : Prop :=
  match P.underlying t with
  | some (.pointer _) => match op with
    | .eql => K (.bool r)
    | .neq => K (.bool (!r))
    | _ => False
  | _ => False
def eqSlA (P : Program) (t : TypeId) (op : BinOp) (r : Bool) (K : AV → Prop) : Prop :=
  match P.underlying t with
  | some (.slice _) => match op with
    | .eql => K (.bool r)
    | .neq => K (.bool (!r))
    | _ => False
  | _ => False
def binA (P : Program) (t : TypeId) (op : BinOp) (x y : AV) (K : AV → Prop) : Prop :=
  match x, y with
  | .int k a, .int k' b =>
    match op with
    | .shl => need (decide (0 ≤ b)) (K (.int k (k.wrap (a * 2 ^ (min b.toNat k.bits)))))
    | .shr => need (decide (0 ≤ b)) (K (.int k (a.fdiv (2 ^ (min b.toNat k.bits)))))
    | op => need (Nat.beq (kno k) (kno k')) (match op with
      | .add => K (.int k (k.wrap (a + b)))
      | .sub => K (.int k (k.wrap (a - b)))
      | .mul => K (.int k (k.wrap (a * b)))
      | .quo => need (decide (b ≠ 0)) (K (.int k (k.wrap (a.tdiv b))))
      | .rem => need (decide (b ≠ 0)) (K (.int k (a.tmod b)))
      | .eql => K (.bool (a == b))
      | .neq => K (.bool (a != b))
      | .lss => K (.bool (decide (a < b)))
      | .leq => K (.bool (decide (a ≤ b)))
      | .gtr => K (.bool (decide (a > b)))
      | .geq => K (.bool (decide (a ≥ b)))
      | op => match bitI op k a b with
        | some r => K (.int k r)
        | none => False)
  | .str a, .str b => match op with
    | .eql => K (.bool (a.toList == b.toList))
    | .neq => K (.bool (!(a.toList == b.toList)))
    | _ => False
  | .bool a, .bool b => match P.underlying t with
    | some .bool => match op with
      | .eql => K (.bool (a == b))
      | .neq => K (.bool (!(a == b)))
      | _ => False
    | _ => False
  | .nilp, .ptr _ _ => eqPtrA P t op false K
  | .ptr _ _, .nilp => eqPtrA P t op false K
  | .nilp, .nilp => eqPtrA P t op true K
  | .nils, .nils => eqSlA P t op true K
  | .nils, .sl _ _ _ _ => eqSlA P t op false K
  | .nils, .sg _ _ _ _ => eqSlA P t op false K
  | .sl _ _ _ _, .nils => eqSlA P t op false K
  | .sg _ _ _ _, .nils => eqSlA P t op false K
  | _, _ => False

def unA (op : UnOp) (x : AV) (K : AV → Prop) : Prop :=
  match op, x with
  | .neg, .int k n => K (.int k (k.wrap (0 - n)))
  | .xor, .int k n => match bitI .xor k (if k.signed then -1 else k.max) n with
    | some r => K (.int k r)
    | none => False
  | .not, .bool b => K (.bool (!b))
  | _, _ => False

def seg (l : List AV) (o n : Nat) : Option (List AV) := takeR (dropR l o) n
def splice (l : List AV) (o : Nat) (m : List AV) : Option (List AV) :=
  match takeR l o with
  | some a => match takeR (dropR l o) (lenR m) with
    | some _ => some (appR a (appR m (dropR l (o + lenR m))))
    | none => none
  | none => none

def rd (H : HP) (b o n : Nat) : Option (List AV) :=
  match H.get b with
  | some (.row _ _ cells) => seg cells o n
  | _ => none
/-- May it stand in one cell? -/
def AV.one : AV → Bool
  | .agg _ => false
  | .tup _ => false
  | _ => true
def wr (fc : Bool) (H : HP) (b o : Nat) (m : List AV) (K : HP → Prop) : Prop :=
  need (allR AV.one m) <| match H.get b with
  | some (.row .own e cells) => match splice cells o m with
    | some c => fzSp fc c fun c => fzSp fc (H.set b (.row .own e c)).l fun l => K ⟨H.n, l⟩
    | none => False
  | some (.row .grown e cells) => match splice cells o m with
    | some c => fzSp fc c fun c => fzSp fc (H.set b (.row .grown e c)).l fun l => K ⟨H.n, l⟩
    | none => False
  | _ => False

/-- What only reads memory. -/
def readA (P : Program) (o : Op) (T : Nat → AV) (H : HP) (K : AV → Prop) : Prop :=
  match o with
  | .load t a => match ev T a with
    | some (.ptr b o) => match isAggA P t, sizeOfA P t with
      | some true, some n => match rd H b o n with
        | some l => K (.agg l)
        | none => False
      | some false, some _ => match H.get b with
        | some (.row _ _ cells) => match nth cells o with
          | some v => K v
          | none => False
        | _ => False
      | _, _ => False
    | _ => False
  | _ => False

def sets : List AV → List (Nat × AV) → (Nat → Option (Nat × Nat)) → Option (List AV)
  | cells, [], _ => some cells
  | cells, (i, v) :: r, place => match place i with
    | some (off, size) => cond (Nat.beq (lenR v.cells) size) (match splice cells off v.cells with
        | some c => sets c r place
        | none => none) none
    | none => none

def evParts (T : Nat → AV) : List (Nat × Operand) → Option (List (Nat × AV))
  | [] => some []
  | (i, x) :: r => match ev T x with
    | some v => match evParts T r with
      | some l => some ((i, v) :: l)
      | none => none
    | none => none

def fieldsPlaces (P : Program) : List Field → Option (List (Nat × Nat))
  | [] => some []
  | f :: r => match sizeOfA P f.type with
    | some s => match fieldsPlaces P r with
      | some l => some ((f.offset, s) :: l)
      | none => none
    | none => none

def repl (n : Nat) (l : List AV) : List AV :=
  match n with
  | 0 => []
  | n + 1 => appR l (repl n l)

def buildA (P : Program) (t : TypeId) (parts : List (Nat × AV)) : Option AV :=
  match zeroOf P t with
  | none => none
  | some z => match P.underlying t with
    | some (.struct fs) => match fieldsPlaces P fs.toList with
      | some pl => match sets z.cells parts (nth pl) with
        | some c => some (.agg c)
        | none => none
      | none => none
    | some (.array _ e) => match sizeOfA P e with
      | some s => match sets z.cells parts (fun i => some (i * s, s)) with
        | some c => some (.agg c)
        | none => none
      | none => none
    | _ => none

/-- A slice type's element type, its size. -/
def elemA (P : Program) (t : TypeId) : Option (TypeId × Nat) :=
  match P.underlying t with
  | some (.slice e) => match sizeOfA P e with
    | some s => some (e, s)
    | none => none
  | _ => none

def cutA (len cap : Nat) (lo hi : Option AV) (mk : Nat → Nat → Prop) : Prop :=
  match hi with
  | none => match lo with
    | none => mk 0 len
    | some (.int _ l) => need (decide (0 ≤ l ∧ l ≤ len)) (mk l.toNat len)
    | _ => False
  | some (.int _ h) => need (decide (0 ≤ h ∧ h ≤ cap)) (match lo with
    | none => mk 0 h.toNat
    | some (.int _ l) => need (decide (0 ≤ l ∧ l ≤ h)) (mk l.toNat h.toNat)
    | _ => False)
  | _ => False

def sliceA (P : Program) (t : TypeId) (x : AV) (lo hi : Option AV) (K : AV → Prop) : Prop :=
  match x with
  | .str s => match P.underlying t with
    | some .string => cutA s.size s.size lo hi fun l h => K (.str (s.extract l h))
    | _ => False
  | .nils => match elemA P t with
    | some _ => cutA 0 0 lo hi fun _ _ => K .nils
    | none => False
  | .sl b o len cap => match elemA P t with
    | some (_, s) => cutA len cap lo hi fun l h => K (cond (Nat.beq cap l) (.sl b o (h - l) (cap - l)) (.sl b (o + l * s) (h - l) (cap - l)))
    | none => False
  | .sg b o len z => match elemA P t with
    | some (_, s) => need (Nat.beq z s) (cutA len len lo hi fun l h => K (.sg b (o + l * s) (h - l) z))
    | none => False
  | .ptr b o => match P.underlying t with
    | some (.array n e) => match sizeOfA P e with
      | some s => cutA n n lo hi fun l h => K (cond (Nat.beq n l) (.sl b o (h - l) (n - l)) (.sl b (o + l * s) (h - l) (n - l)))
      | none => False
    | _ => False
  | _ => False

def minmaxA (mx : Bool) : AV → List AV → Option AV
  | v, [] => some v
  | .int k x, .int _ y :: r => minmaxA mx (.int k (if (cond mx (decide (y > x)) (decide (y < x))) = true then y else x)) r
  | _, _ => none

def oev (T : Nat → AV) : Option Operand → Option (Option AV)
  | none => some none
  | some x => match ev T x with
    | some v => some (some v)
    | none => none

/-- What neither reads nor makes memory. -/
def pureA (P : Program) (o : Op) (T : Nat → AV) (K : AV → Prop) : Prop :=
  match o with
  | .move x => match ev T x with
    | some v => K v
    | none => False
  | .assign x => match ev T x with
    | some v => K v
    | none => False
  | .pick c a b => match ev T c with
    | some (.bool t) => match ev T a, ev T b with
      | some (.bool x), some (.bool y) => K (.bool (cond t x y))
      | some x, some y => cond t (K x) (K y)
      | _, _ => False
    | _ => False
  | .build t parts => match evParts T parts.toList with
    | some ps => match buildA P t ps with
      | some v => K v
      | none => False
    | none => False
  | .nilCheck x => match ev T x with
    | some (.ptr b o) => K (.ptr b o)
    | _ => False
  | .binOp op t x y _ => match ev T x, ev T y with
    | some a, some b => binA P t op a b K
    | _, _ => False
  | .unOp op _ x => match ev T x with
    | some a => unA op a K
    | none => False
  | .convert src dst x => match P.underlying src with
    | some _ => match ev T x, P.underlying dst with
      | some (.int _ n), some (.int k) => K (.int k (k.wrap n))
      | _, _ => False
    | none => False
  | .makeFunc f a b => match evs T a.toList, evs T b.toList with
    | some x, some y => K (.fn f x y)
    | _, _ => False
  | .slice t x lo hi none => match ev T x, oev T lo, oev T hi with
    | some v, some l, some h => sliceA P t v l h K
    | _, _, _ => False
  | .fieldAddr s x f => match ev T x, P.underlying s with
    | some (.ptr b o), some (.struct fs) => match nth fs.toList f with
      | some fd => match sizeOfA P fd.type with
        | some (_ + 1) => K (.ptr b (o + fd.offset))
        | _ => False
      | none => False
    | _, _ => False
  | .field s x f => match ev T x, P.underlying s with
    | some (.agg l), some (.struct fs) => match nth fs.toList f with
      | some fd => match isAggA P fd.type, sizeOfA P fd.type with
        | some true, some n => match seg l fd.offset n with
          | some m => K (.agg m)
          | none => False
        | some false, some _ => match nth l fd.offset with
          | some v => K v
          | none => False
        | _, _ => False
      | none => False
    | _, _ => False
  | .indexAddr t x i => match ev T i with
    | some (.int _ n) => match ev T x with
      | some (.ptr b o) => match P.underlying t with
        | some (.array len e) => match sizeOfA P e with
          | some s => need (decide (0 ≤ n ∧ n < len)) (K (.ptr b (o + n.toNat * s)))
          | none => False
        | _ => False
      | some (.sl b o len _) => match elemA P t with
        | some (_, s) => need (decide (0 ≤ n ∧ n < len)) (K (.ptr b (o + n.toNat * s)))
        | none => False
      | some (.sg b o len _) => match elemA P t with
        | some (_, s) => need (decide (0 ≤ n ∧ n < len)) (K (.ptr b (o + n.toNat * s)))
        | none => False
      | _ => False
    | _ => False
  | .index t x i => match ev T i with
    | some (.int _ n) => match ev T x with
      | some (.agg l) => match P.underlying t with
        | some (.array len e) => match isAggA P e, sizeOfA P e with
          | some true, some s => need (decide (0 ≤ n ∧ n < len)) (match seg l (n.toNat * s) s with
            | some m => K (.agg m)
            | none => False)
          | some false, some s => need (decide (0 ≤ n ∧ n < len)) (match nth l (n.toNat * s) with
            | some v => K v
            | none => False)
          | _, _ => False
        | _ => False
      | some (.str s) => match P.underlying t with
        | some .string => need (decide (0 ≤ n)) (match nth s.data.toList n.toNat with
          | some b => K (.int .u8 b.toNat)
          | none => False)
        | _ => False
      | _ => False
    | _ => False
  | .extract x i => match ev T x with
    | some (.tup l) => match nth l i with
      | some v => K v
      | none => False
    | _ => False
  | .makeInterface t x => match ev T x with
    | some v => match P.underlying t with
      | some (.interface _) => False
      | some _ => K (.iface t v)
      | none => False
    | none => False
  | .call c => match c.callee with
    | .builtin .len => match c.argTypes[0]? with
      | some t => match evs T c.args.toList with
        | some [x] => match P.underlying t with
          | some .string => match x with
            | .str s => K (.int .i64 s.size)
            | _ => False
          | some (.slice _) => match x with
            | .sl _ _ n _ => K (.int .i64 n)
            | .sg _ _ n _ => K (.int .i64 n)
            | .nils => K (.int .i64 0)
            | _ => False
          | some (.array n _) => K (.int .i64 n)
          | _ => False
        | _ => False
      | none => False
    | .builtin .min => match evs T c.args.toList with
      | some (v :: r) => match minmaxA false v r with
        | some x => K x
        | none => False
      | _ => False
    | .builtin .max => match evs T c.args.toList with
      | some (v :: r) => match minmaxA true v r with
        | some x => K x
        | none => False
      | _ => False
    | _ => False
  | _ => False

/-- The first n elements' cells of what is appended or copied. -/
def srcCells (H : HP) (size n : Nat) : AV → Option (List AV)
  | .sl b o _ _ => cond (Nat.beq (n * size) 0) (some []) (rd H b o (n * size))
  | .sg b o _ _ => cond (Nat.beq (n * size) 0) (some []) (rd H b o (n * size))
  | .nils => cond (Nat.beq n 0) (some []) none
  | .str s => some (mapR (fun b : UInt8 => .int .u8 b.toNat) ((s.extract 0 n).data.toList))
  | _ => none
def lenA : AV → Option Nat
  | .sl _ _ n _ => some n
  | .sg _ _ n _ => some n
  | .nils => some 0
  | .str s => some s.size
  | _ => none

abbrev Call := FuncId → List AV → HP → (AV → HP → Bool → Prop) → Prop

/-- The way of an append that makes a new row (or goes on in one whose end nobody else knows). -/
def growA (P : Program) (fc : Bool) (e : TypeId) (size m n by_ : Nat) (new : List AV) (K : AV → HP → Bool → Prop) (old : List AV) (len : Nat) (H' : HP) : Prop :=
  need (Nat.ble ((len + m) * by_) 140737488355328) (need (Nat.ble 1 by_) (match zeroOf P e with
    | some z => need (Nat.beq (lenR z.cells) size) (fzSp fc (appR old new) fun c => K (.sg n 0 (len + m) size) (H'.push (.row .grown e c)) false)
    | none => False))

def appendA (P : Program) (fc : Bool) (base : Nat) (t : TypeId) (s x : AV) (H : HP) (K : AV → HP → Bool → Prop) : Prop :=
  match elemA P t with
  | none => False
  | some (e, size) => match P.info? e with
    | none => False
    | some i => match lenA x with
      | none => False
      | some m => match srcCells H size m x with
        | none => False
        | some new => need (Nat.beq (lenR new) (m * size)) (need (allR AV.one new) (match s with
          | .nils => cond (Nat.beq m 0) (K .nils H false) (growA P fc e size m H.n i.bytes new K [] 0 H)
          | .sl b o len cap => cond (Nat.beq m 0) (need (Nat.ble len cap) (K (.sl b o len cap) H false)) (match rd H b o (len * size) with
            | some old => cond (Nat.ble (len + m) cap)
              (wr fc H b (o + len * size) new fun H' => K (.sl b o (len + m) cap) H' (!(Nat.ble base b) && !(allR AV.plain1 new)))
              (growA P fc e size m H.n i.bytes new K old len H)
            | none => False)
          | .sg b o len z => cond (Nat.beq m 0) (K (.sg b o len z) H false) (match H.get b with
            | some (.row .grown _ old) => need (Nat.beq z size) (need (Nat.beq o 0) (need (Nat.beq (lenR old) (len * size)) (fzSp fc (H.set b .dead).l fun l => growA P fc e size m H.n i.bytes new K old len ⟨H.n, l⟩)))
            | _ => False)
          | _ => False))

def loudA (P : Program) (call : Call) (fc : Bool) (base : Nat) (o : Op) (T : Nat → AV) (H : HP) (K : AV → HP → Bool → Prop) : Prop :=
  match o with
  | .alloc e => match zeroOf P e with
    | some z => K (.ptr H.n 0) (H.push (.row .own e z.cells)) false
    | none => False
  | .box e x => match ev T x with
    | some v => K (.ptr H.n 0) (H.push (.row .own e v.cells)) false
    | none => False
  | .buildSlice t len parts => match elemA P t with
    | some (e, s) => match evParts T parts.toList with
      | some ps => match zeroOf P e with
        | some z => need (Nat.ble (len * s) 16777216) (need (Nat.beq (lenR z.cells) s) (match sets (repl len z.cells) ps (fun i => some (i * s, s)) with
          | some c => fzSp fc c fun c => K (.sl H.n 0 len len) (H.push (.row .own e c)) false
          | none => False))
        | none => False
      | none => False
    | none => False
  | .store t a x => match ev T a with
    | some (.ptr b o) => match ev T x with
      | some v => match sizeOfA P t with
        | some n => need (Nat.beq (lenR v.cells) n) (wr fc H b o v.cells fun H' => K AV.undef H' (!(Nat.ble base b) && !(allR AV.plain1 v.cells)))
        | none => False
      | none => False
    | _ => False
  | .convert src dst x => match P.underlying src with
   | none => False
   | some _ => match ev T x with
    | some (.str s) => match P.underlying dst with
      | some (.slice e) => match P.underlying e with
        | some (.int .u8) => match sizeOfA P e with
          | some (1) => K (.sg H.n 0 s.size 1) (H.push (.row .grown e (mapR (fun b : UInt8 => .int .u8 b.toNat) s.data.toList))) false
          | _ => False
        | _ => False
      | _ => False
    | _ => False
  | .makeSlice t l c => match elemA P t with
    | some (e, s) => match ev T l with
      | some (.int .i64 n) => match ev T c with
        | some (.int .i64 m) => match zeroOf P e, P.info? e with
          | some z, some i => need (Nat.beq (lenR z.cells) s) (need (decide (0 ≤ n ∧ n ≤ m ∧ m ≤ 4611686018427387904 ∧ i.bytes * m ≤ 281474976710656)) (K (.sl H.n 0 n.toNat m.toNat) (H.push (.row .own e (repl m.toNat z.cells))) false))
          | _, _ => False
        | _ => False
      | _ => False
    | none => False
  | .call c => match c.callee with
    | .builtin .append => match c.argTypes[0]?, c.argTypes[1]? with
      | some t, some u => match evs T c.args.toList with
        | some [s, x] => match P.underlying u with
          | some (.slice _) => appendA P fc base t s x H K
          | some .string => appendA P fc base t s x H K
          | _ => False
        | _ => False
      | _, _ => False
    | .value f => match ev T f with
      | some (.fn (.func g) first cap) => match evs T c.args.toList with
        | some as => call g (appR first (appR as cap)) H K
        | none => False
      | _ => False
    | _ => False
  | _ => False

/-- 0: neither reads nor makes memory; 1: only reads; 2: else. -/
def kindA (P : Program) : Op → Nat
  | .load .. => 1
  | .alloc _ | .box .. | .buildSlice .. | .store .. | .makeSlice .. => 2
  | .convert _ dst _ => match P.underlying dst with
    | some (.int _) => 0
    | _ => 2
  | .call c => match c.callee with
    | .builtin .len => 0
    | .builtin .min => 0
    | .builtin .max => 0
    | _ => 2
  | _ => 0

def opA (P : Program) (call : Call) (fc : Bool) (base : Nat) (o : Op) (T : Nat → AV) (H : HP) (K : AV → HP → Bool → Prop) : Prop :=
  match kindA P o with
  | 0 => pureA P o T fun v => fzV fc v fun v => K v H false
  | 1 => readA P o T H fun v => fzV fc v fun v => K v H false
  | _ => loudA P call fc base o T H fun v H' d => fzV fc v fun v => K v H' d

abbrev Kont := Exit → (Nat → AV) → HP → Bool → Prop

def opsA (P : Program) (call : Call) (fc : Bool) (nt base : Nat) (ops : List Oper) : List Oper → (Nat → AV) → HP → Bool → ((Nat → AV) → HP → Bool → Prop) → Prop
  | [], T, H, d, K => K T H d
  | o :: r, T, H, d, K => match o.dst with
    | some x => need (Nat.blt x nt) (cond (wantedA ops T o)
      (opA P call fc base o.op T H fun v H' d' => opsA P call fc nt base ops r (upd T x v) H' (cond d' true d) K)
      (opsA P call fc nt base ops r (upd T x AV.undef) H d K))
    | none => cond (wantedA ops T o)
      (opA P call fc base o.op T H fun _ H' d' => opsA P call fc nt base ops r T H' (cond d' true d) K)
      (opsA P call fc nt base ops r T H d K)

/- Regions whose order is open: the operations in an order of ours, if that is as good as any. -/
def dstOk (nt : Nat) : Option Tmp → Bool
  | some x => Nat.blt x nt
  | none => true
def putO (T : Nat → AV) : Option Tmp → AV → (Nat → AV)
  | some x, v => upd T x v
  | none, _ => T
def binding (e : Edge) : Bool := match e.ground with
  | .textOnly _ => false
  | .gcOnly _ => false
  | _ => true
def anc1 (acc : List Nat) : List Edge → Nat
  | [] => 0
  | e :: r => cond (binding e) (anc1 acc r ||| 2 ^ e.on ||| (match nth acc e.on with | some m => m | none => 0)) (anc1 acc r)
def ancs : List Oper → List Nat → List Nat
  | [], acc => acc
  | o :: r, acc => ancs r (appR acc [anc1 acc o.after.toList])
def depsIn (done : Nat) : List Edge → Bool
  | [] => true
  | e :: r => cond (binding e) (cond (done.testBit e.on) (depsIn done r) false) (depsIn done r)
/-- As kindA; 3: a new variable. -/
def kindD (P : Program) (o : Oper) : Nat := match o.op with
  | .alloc e => match o.dst, o.guard, zeroOf P e with
    | some _, none, some _ => 3
    | _, _, _ => 2
  | op => kindA P op
/-- Does it neither write nor make memory? -/
def quietO (P : Program) (o : Oper) : Bool := Nat.ble (kindD P o) 1
/-- The first operation that may come up now, of a class: quiet ones, loud ones, new variables. -/
def pickO (P : Program) (done : Nat) (q : Nat) : List Oper → Nat → Option Nat
  | [], _ => none
  | o :: r, i => cond (!(done.testBit i) && Nat.beq (match kindD P o with | 0 => 0 | 1 => 0 | 3 => 2 | _ => 1) q && depsIn done o.after.toList) (some i) (pickO P done q r (i + 1))
def planO (P : Program) (ops : List Oper) : Nat → Nat → List Nat
  | 0, _ => []
  | n + 1, done => match pickO P done 0 ops 0 with
    | some i => i :: planO P ops n (done ||| 2 ^ i)
    | none => match pickO P done 1 ops 0 with
      | some i => i :: planO P ops n (done ||| 2 ^ i)
      | none => match pickO P done 2 ops 0 with
        | some i => i :: planO P ops n (done ||| 2 ^ i)
        | none => []
def looksO (ops : List Oper) (o : Oper) : List Tmp :=
  (o.op.operands.toList.filterMap fun | .tmp t => some t | _ => none) ++
  (match o.guard with
   | some (g, _) => match nth ops g with
     | some x => x.dst.toList
     | none => []
   | none => [])
def hasT (x : Option Tmp) (l : List Tmp) : Bool := match x with
  | some d => List.rec (motive := fun _ => Bool) false (fun y _ ih => cond (Nat.beq d y) true ih) l
  | none => false
def sameT (x y : Option Tmp) : Bool := match x, y with
  | some a, some b => Nat.beq a b
  | _, _ => false
def maskOf (A : List Nat) (i : Nat) : Nat := match nth A i with
  | some m => m
  | none => 0
/-- Are the ancestors told ones? -/
def okAnc1 (A : List Nat) (i m : Nat) (o : Oper) : Nat → Bool
  | 0 => true
  | j + 1 => cond (cond (m.testBit j) (o.after.toList.any fun e => binding e && Nat.blt e.on i && (Nat.beq e.on j || (maskOf A e.on).testBit j)) true) (okAnc1 A i m o j) false
def okAnc (A : List Nat) : List Oper → Nat → Bool
  | [], _ => true
  | o :: r, i => cond (Nat.blt (maskOf A i) (2 ^ i)) (cond (okAnc1 A i (maskOf A i) o i) (cond (o.after.toList.all fun e => !(binding e) || Nat.blt e.on i) (okAnc A r (i + 1)) false) false) false
/-- One operation against all. -/
def okPair (P : Program) (ops : List Oper) (A : List Nat) (i : Nat) (o : Oper) : List Oper → Nat → Bool
  | [], _ => true
  | p :: r, j => cond (cond (Nat.beq i j) (!(Nat.beq (kindD P o) 1) || !(hasT o.dst (looksO ops o))) ((!(hasT p.dst (looksO ops o)) || (maskOf A i).testBit j || ((maskOf A j).testBit i && !(Nat.beq (kindD P o) 1))) && !(sameT o.dst p.dst))) (okPair P ops A i o r (j + 1)) false
def okPairs (P : Program) (ops : List Oper) (A : List Nat) : List Oper → Nat → Bool
  | [], _ => true
  | o :: r, i => cond (okPair P ops A i o ops 0) (okPairs P ops A r (i + 1)) false
def okOrder (P : Program) (ops : List Oper) (A : List Nat) : List Nat → Nat → Nat → Bool
  | [], done, _ => Nat.beq done (2 ^ lenR ops - 1)
  | i :: r, done, loud => match nth ops i with
    | none => false
    | some o => cond (!(done.testBit i) && depsIn done o.after.toList && (Nat.beq (kindD P o) 3 || Nat.beq (loud &&& maskOf A i) loud))
      (okOrder P ops A r (done ||| 2 ^ i) (cond (quietO P o) loud (loud ||| 2 ^ i))) false
def beq1 : AV → AV → Bool
  | .bool a, .bool b => cond a b (!b)
  | .int k a, .int l b => Nat.beq (kno k) (kno l) && decide (a = b)
  | .ptr a b, .ptr c d => Nat.beq a c && Nat.beq b d
  | .sl a b c d, .sl e f g h => Nat.beq a e && Nat.beq b f && Nat.beq c g && Nat.beq d h
  | .sg a b c d, .sg e f g h => Nat.beq a e && Nat.beq b f && Nat.beq c g && Nat.beq d h
  | .nilp, .nilp => true
  | .nils, .nils => true
  | .nilm, .nilm => true
  | .nilf, .nilf => true
  | .nili, .nili => true
  | _, _ => false
def beqs : List AV → List AV → Bool
  | [], [] => true
  | a :: r, b :: s => cond (beq1 a b) (beqs r s) false
  | _, _ => false
def beqV : AV → AV → Bool
  | .agg l, .agg m => beqs l m
  | a, b => beq1 a b
def same (fc : Bool) (v w : AV) (p : Prop) : Prop := cond fc (need (beqV v w) p) (v = w ∧ p)
def stabs (P : Program) (fc : Bool) (ops : List Oper) (m : Nat) (T : Nat → AV) (H : HP) : List Nat → Prop → Prop
  | [], p => p
  | q :: r, p => cond (m.testBit q) (stabs P fc ops m T H r p) (match nth ops q with
    | some o => match o.dst with
      | some x => readA P o.op T H fun v => same fc v (T x) (stabs P fc ops m T H r p)
      | none => False
    | none => False)
def runP (P : Program) (call : Call) (fc : Bool) (nt base : Nat) (ops : List Oper) (A : List Nat) : List Nat → List Nat → (Nat → AV) → HP → Bool → ((Nat → AV) → HP → Bool → Prop) → Prop
  | [], _, T, H, d, K => K T H d
  | i :: r, pend, T, H, d, K => match nth ops i with
    | none => False
    | some o => need (dstOk nt o.dst) (cond (wantedA ops T o)
      (match kindA P o.op with
        | 0 => pureA P o.op T fun v => fzV fc v fun v => runP P call fc nt base ops A r pend (putO T o.dst v) H d K
        | 1 => readA P o.op T H fun v => fzV fc v fun v => runP P call fc nt base ops A r (i :: pend) (putO T o.dst v) H d K
        | _ => loudA P call fc base o.op T H fun v H' d' => fzV fc v fun v => stabs P fc ops (maskOf A i) (putO T o.dst v) H' pend (runP P call fc nt base ops A r pend (putO T o.dst v) H' (cond d' true d) K))
      (runP P call fc nt base ops A r pend (putO T o.dst AV.undef) H d K))
def okPlan (P : Program) (ops : List Oper) (A : List Nat) : Bool := okAnc A ops 0 && okPairs P ops A ops 0 && okOrder P ops A (planO P ops (lenR ops) 0) 0 0
def drawA (P : Program) (call : Call) (fc : Bool) (nt base : Nat) (ops : List Oper) (T : Nat → AV) (H : HP) (d : Bool) (K : (Nat → AV) → HP → Bool → Prop) : Prop :=
  need (okPlan P ops (ancs ops [])) <| need (allR (fun o => dstOk nt o.dst) ops) (runP P call fc nt base ops (ancs ops []) (planO P ops (lenR ops) 0) [] T H d K)

/-- Temporaries laid out anew (a matter of speed alone). -/
def comp (fc : Bool) (nt : Nat) (T : Nat → AV) (k : (Nat → AV) → Prop) : Prop :=
  cond fc (compL nt T [] fun l => k fun i => match nth l i with
    | some v => v
    | none => AV.undef) (k T)

def loopA (fc : Bool) (nt : Nat) (body : (Nat → AV) → HP → Bool → Kont → Prop) : Nat → (Nat → AV) → HP → Bool → Kont → Prop
  | 0, _, _, _, _ => False
  | n + 1, T, H, d, K => comp fc nt T fun T => body T H d fun e T' H' d' => match e with
    | .normal => loopA fc nt body n T' H' d' K
    | .exit id => K (.exit id) T' H' d'
    | .goto l => K (.goto l) T' H' d'
    | .ret => K .ret T' H' d'
    | _ => False

def codeA (P : Program) (call : Call) (fc : Bool) (lf nt base : Nat) : Code → (Nat → AV) → HP → Bool → Kont → Prop
  | .skip, T, H, d, K => K .normal T H d
  | .region _ ops draw, T, H, d, K => cond draw (drawA P call fc nt base ops.toList T H d (K .normal)) (opsA P call fc nt base ops.toList ops.toList T H d (K .normal))
  | .seq a b, T, H, d, K => codeA P call fc lf nt base a T H d fun e T' H' d' => match e with
    | .normal => codeA P call fc lf nt base b T' H' d' K
    | .exit id => K (.exit id) T' H' d'
    | .goto l => K (.goto l) T' H' d'
    | .ret => K .ret T' H' d'
    | _ => False
  | .cond c a b, T, H, d, K => match ev T c with
    | some (.bool t) => cond t (codeA P call fc lf nt base a T H d K) (codeA P call fc lf nt base b T H d K)
    | _ => False
  | .block id c, T, H, d, K => codeA P call fc lf nt base c T H d fun e T' H' d' => match e with
    | .normal => K .normal T' H' d'
    | .exit id' => cond (Nat.beq id' id) (K .normal T' H' d') (K (.exit id') T' H' d')
    | .goto l => K (.goto l) T' H' d'
    | .ret => K .ret T' H' d'
    | _ => False
  | .loop c, T, H, d, K => loopA fc nt (codeA P call fc lf nt base c) lf T H d K
  | .exit id, T, H, d, K => K (.exit id) T H d
  | .label _, T, H, d, K => K .normal T H d
  | .ret, T, H, d, K => K .ret T H d
  | _, _, _, _, _ => False

def resA (P : Program) (T : Nat → AV) (H : HP) : List ResultVar → (List AV → Prop) → Prop
  | [], K => K []
  | .tmp t :: r, K => resA P T H r fun l => K (T t :: l)
  | .cell a t :: r, K => readA P (.load t (.tmp a)) T H fun v => resA P T H r fun l => K (v :: l)

def oneA : List AV → AV
  | [x] => x
  | l => .tup l
def finA (P : Program) (fc : Bool) (base : Nat) (fn : Func) (T : Nat → AV) (H : HP) (d : Bool) (K : AV → HP → Bool → Prop) : Prop :=
  resA P T H fn.results.toList fun l => fzV fc (oneA l) fun v =>
    cond (cond d false v.plain) (fzSp fc (H.trim base).l fun l => K v ⟨base, l⟩ false) (K v H d)

def argsT (args : List AV) : Nat → AV := fun i => match nth args i with
  | some v => v
  | none => AV.undef

def callA (P : Program) (fc : Bool) (lf : Nat) : Nat → Call
  | 0, _, _, _, _ => False
  | n + 1, f, args, H, K => match P.funcs[f]? with
    | some fn => match fn.body with
      | some c => need (Nat.ble (lenR args) fn.ntmps) (codeA P (callA P fc lf n) fc lf fn.ntmps H.n c (argsT args) H false fun e T' H' d => match e with
        | .normal => finA P fc H.n fn T' H' d K
        | .ret => finA P fc H.n fn T' H' d K
        | _ => False)
      | none => False
    | none => False
end

end Go.X
