/- The deterministic semantics: what a piece of code does on the abstract heap. -/
import Derived.Test.YtpognhdhlbgliaaGreatDoorLkHeap
namespace Go.Lk

/-- A step of the model that asks for the program alone. -/
def evalPure (P : Program) {α : Type} : Sem α → Option α
  | .pure a => some a
  | .program k => evalPure P (k P)
  | _ => none

/-- A one-cell value without an address. -/
def scal : Value → Bool
  | .bool _ | .int _ _ | .float _ _ | .string _ | .nilFunc | .nilIface => true
  | .pointer a => a.isNone
  | .slice a l c => a.isNone && Nat.beq l 0 && Nat.beq c 0
  | .map a => a.isNone
  | _ => false

def noAddr : Value → Bool
  | .agg c => c.toList.all scal
  | .tuple c => c.toList.all scal
  | v => scal v

/-- A token stands for a number: it is written as a complex value, which the program has none of. -/
def isTok : Value → Bool
  | .complex _ _ _ => true
  | _ => false

/-- What is known of tokens: of which kind each is; what operations on them come to. -/
class Tk where
  kd : Nat → IntKind
  orc : Program → BinOp → TypeId → Value → Value → Option Value
  cvt : IntKind → Value → Option Value
  mm : Bool → List Value → Option Value

/-- The value of one cell. -/
def oneC : Value → Bool
  | .agg _ => false
  | .tuple _ => false
  | _ => true

def aeq (a b : Addr) : Bool := Nat.beq a.block b.block && Nat.beq a.off b.off && decide (a.spot = b.spot)

def veq1 : Value → Value → Bool
  | .bool a, .bool b => a == b
  | .int k a, .int l b => decide (k = l) && decide (a = b)
  | .string a, .string b => decide (a = b)
  | .pointer none, .pointer none => true
  | .pointer (some a), .pointer (some b) => aeq a b
  | .slice none l c, .slice none l' c' => Nat.beq l l' && Nat.beq c c'
  | .slice (some a) l c, .slice (some b) l' c' => aeq a b && Nat.beq l l' && Nat.beq c c'
  | .map none, .map none => true
  | .map (some a), .map (some b) => Nat.beq a b
  | .nilFunc, .nilFunc => true
  | .complex k a b, .complex l c d => decide (k = l) && Nat.beq a c && Nat.beq b d
  | _, _ => false

def veqL : List Value → List Value → Bool
  | [], [] => true
  | a :: l, b :: m => veq1 a b && veqL l m
  | _, _ => false

def veq : Value → Value → Bool
  | .agg a, .agg b => veqL a.toList b.toList
  | a, b => veq1 a b

/-- Cells laid into cells: (place, size, value). -/
def bldL : List Value → List (Nat × Nat × Value) → Option (List Value)
  | cs, [] => some cs
  | cs, (off, size, v) :: rest =>
    let l := v.cells.toList
    if l.length = size ∧ off + size ≤ cs.length then bldL (cs.take off ++ (l ++ cs.drop (off + size))) rest else none

def partsOf (place : Nat → Option (Nat × Nat)) : List (Nat × Value) → Option (List (Nat × Nat × Value))
  | [] => some []
  | (i, v) :: rest => match place i, partsOf place rest with
    | some (o, s), some l => some ((o, s, v) :: l)
    | _, _ => none

def aggO : Option (List Value) → Option Value
  | some l => some (.agg ⟨l⟩)
  | none => none

/-- The cells of a type's zero value, if none bears an address. -/
def zc (i : TypeInfo) : Option (List Value) := match i.zero with
  | some z => match z.cells.toList.all scal with
    | true => some z.cells.toList
    | false => none
  | none => none

def scalO (o : Option Value) : Option Value := match o with
  | some v => match scal v with
    | true => some v
    | false => none
  | none => none

section
variable (P : Program)

def fieldPl (fs : Array Field) (i : Nat) : Option (Nat × Nat) := match fs[i]? with
  | some f => match P.info? f.type with
    | some k => some (f.offset, k.size)
    | none => none
  | none => none

def buildP (t : TypeId) (ps : List (Nat × Value)) : Option Value :=
  match P.underlying t, P.info? t with
  | some (.struct fs), some ti => match zc ti with
    | some z => if fs.toList.all (fun f => (P.info? f.type).isSome) then match partsOf (fieldPl P fs) ps with
        | some l => aggO (bldL z l)
        | none => none
      else none
    | none => none
  | some (.array _ e), some ti => match zc ti, P.info? e with
    | some z, some ei => match partsOf (fun i => some (i * ei.size, ei.size)) ps with
        | some l => aggO (bldL z l)
        | none => none
    | _, _ => none
  | _, _ => none

def addP (v : Value) (k : Nat) : Option Value := match v with
  | .pointer (some a) => some (.pointer (some (a.add k)))
  | _ => none

def isAggD : TypeDesc → Bool
  | .struct _ => true
  | .array _ _ => true
  | _ => false

def partP (t : TypeId) (cs : List Value) (off : Nat) : Option Value :=
  match P.underlying t, P.info? t with
  | some d, some i => match isAggD d with
    | true => some (.agg ⟨(cs.drop off).take i.size⟩)
    | false => cs[off]?
  | _, _ => none

def fieldAddrP (t : TypeId) (x : Value) (f : Nat) : Option Value :=
  match P.underlying t with
  | some (.struct fs) => match fs[f]? with
    | some fd => match P.info? fd.type with
      | some i => match Nat.beq i.size 0 with
        | true => none
        | false => addP x fd.offset
      | none => none
    | none => none
  | _ => none

def fieldP (t : TypeId) (x : Value) (f : Nat) : Option Value :=
  match P.underlying t with
  | some (.struct fs) => match fs[f]? with
    | some fd => match x with
      | .agg cs => partP P fd.type cs.toList fd.offset
      | _ => none
    | none => none
  | _ => none

/-- The address of an element: of a slice of elements of so many cells. -/
def elemAddr (sz : Nat) (x i : Value) : Option Value := match x, i with
  | .slice (some a) len _, .int _ i => if 0 ≤ i ∧ i < len then some (.pointer (some (a.add (i.toNat * sz)))) else none
  | _, _ => none
def arrAddr (n sz : Nat) (x i : Value) : Option Value := match x, i with
  | .pointer (some a), .int _ i => if 0 ≤ i ∧ i < n then some (.pointer (some (a.add (i.toNat * sz)))) else none
  | _, _ => none

def indexAddrP (t : TypeId) (x i : Value) : Option Value :=
  match P.underlying t with
  | some (.slice e) => match P.info? e with
    | some ei => elemAddr ei.size x i
    | none => none
  | some (.array n e) => match P.info? e with
    | some ei => arrAddr n ei.size x i
    | none => none
  | _ => none

def strAt (x i : Value) : Option Value := match x, i with
  | .string s, .int _ i => if 0 ≤ i then match s[i.toNat]? with
      | some b => some (.int .u8 b.toNat)
      | none => none
    else none
  | _, _ => none

def indexP (t : TypeId) (x i : Value) : Option Value :=
  match P.underlying t with
  | some .string => strAt x i
  | some (.array n e) => match P.info? e with
    | some ei => match x, i with
      | .agg cs, .int _ i => if 0 ≤ i ∧ i < n then partP P e cs.toList (i.toNat * ei.size) else none
      | _, _ => none
    | none => none
  | _ => none

def bnd (v : Option Value) (dflt y : Nat) : Option Nat := match v with
  | none => some dflt
  | some (.int _ i) => if 0 ≤ i ∧ i ≤ y then some i.toNat else none
  | _ => none

def sliceStr (x : Value) (lo hi : Option Value) : Option Value := match x with
  | .string s => match bnd hi s.size s.size with
    | some h => match bnd lo 0 h with
      | some l => some (.string (s.extract l h))
      | none => none
    | none => none
  | _ => none

def sliceSl (sz : Nat) (x : Value) (lo hi mx : Option Value) : Option Value := match x with
  | .slice a len cap => match bnd mx cap cap with
    | some m => match bnd hi len m with
      | some h => match bnd lo 0 h with
        | some l => if h ≤ m then some (.slice (if m = l then a else a.map (·.add (l * sz))) (h - l) (m - l)) else none
        | none => none
      | none => none
    | none => none
  | _ => none

def sliceP (t : TypeId) (x : Value) (lo hi mx : Option Value) : Option Value :=
  match P.underlying t, mx with
  | some .string, none => sliceStr x lo hi
  | _, _ => none

def notV : Value → Option Value
  | .bool b => some (.bool (!b))
  | _ => none

def binPtr (a b : Option Addr) : Option Bool := match a, b with
  | none, b => some b.isNone
  | some _, none => some false
  | some a, some b => match Nat.beq a.block b.block with
    | true => some (Nat.beq a.off b.off)
    | false => none

def eqOp (op : BinOp) (r : Option Bool) : Option Value := match op, r with
  | .eql, some b => some (.bool b)
  | .neq, some b => some (.bool (!b))
  | _, _ => none

def isPtrD : Option TypeDesc → Option TypeId
  | some (.pointer e) => some e
  | _ => none
def isSliceD : Option TypeDesc → Bool
  | some (.slice _) => true
  | _ => false
def isMapD : Option TypeDesc → Bool
  | some (.map _ _) => true
  | _ => false
def isFuncD : Option TypeDesc → Bool
  | some (.func _ _ _) => true
  | _ => false

def nilEq (a b : Bool) : Option Bool := match a, b with
  | true, b => some b
  | false, true => some false
  | false, false => none

def eqGuardP (op : BinOp) (t : TypeId) : Value → Value → Bool
  | .nilIface, .nilIface => false
  | .agg _, .agg _ => match op with
    | .eql => !(P.eqGuardType P.depth t)
    | .neq => !(P.eqGuardType P.depth t)
    | _ => false
  | _, _ => true

def binP (op : BinOp) (t : TypeId) (x y : Value) : Option Value :=
  match x, y with
  | .pointer a, .pointer b => match isPtrD (P.underlying t) with
    | some e => match Nat.beq (P.cellsOf e) 0, (P.info? e).isSome with
      | false, true => eqOp op (binPtr a b)
      | _, _ => none
    | none => none
  | .slice a _ _, .slice b _ _ => match isSliceD (P.underlying t) with
    | true => eqOp op (nilEq a.isNone b.isNone)
    | false => none
  | .map a, .map b => match isMapD (P.underlying t) with
    | true => eqOp op (nilEq a.isNone b.isNone)
    | false => none
  | .nilFunc, .func _ _ _ => match isFuncD (P.underlying t) with
    | true => eqOp op (some false)
    | false => none
  | .func _ _ _, .nilFunc => match isFuncD (P.underlying t) with
    | true => eqOp op (some false)
    | false => none
  | x, y => match noAddr x, noAddr y, eqGuardP P op t x y with
    | true, true, true => scalO (evalPure P (Go.binOp op t x y))
    | _, _, _ => none

def unP (op : UnOp) (x : Value) : Option Value := match noAddr x with
  | true => scalO (evalPure P (Op.unary op x))
  | false => none

def convP (s d : TypeId) (x : Value) : Option Value :=
  match P.underlying s, P.underlying d, x with
  | some _, some (.int k), .int _ n => some (.int k (k.wrap n))
  | some _, some .string, .string b => some (.string b)
  | _, _, _ => none

def convT [Tk] (s d : TypeId) (x : Value) : Option Value :=
  match P.underlying s, P.underlying d, isTok x with
  | some _, some (.int k), true => Tk.cvt k x
  | _, _, _ => none

def lenP (t : Option TypeDesc) (x : Value) : Option Value := match t, x with
  | some .string, .string s => some (.int .i64 s.size)
  | some (.slice _), .slice _ n _ => some (.int .i64 n)
  | some (.array n _), _ => some (.int .i64 n)
  | _, _ => none

def nilChk (x : Value) : Option Value := match x with
  | .pointer (some a) => some (.pointer (some a))
  | .func (.func f) a b => some (.func (.func f) a b)
  | _ => none

def min2P : List Value → Option Value
  | [.int k a, .int l b] => if k = l then some (.int k (if b < a then b else a)) else none
  | [.int k a, .int l b, .int m c] => if k = l ∧ k = m then some (.int k (if c < (if b < a then b else a) then c else (if b < a then b else a))) else none
  | _ => none
def max2P : List Value → Option Value
  | [.int k a, .int l b] => if k = l then some (.int k (if a < b then b else a)) else none
  | _ => none

def orElse' {α : Type} (a : Option α) (b : Option α) : Option α := match a with
  | some x => some x
  | none => b

def pureOp [Tk] (o : Op) (ρ : Operand → Value) : Option Value := match o with
  | .move x => some (ρ x)
  | .assign x => some (ρ x)
  | .pick c a b => match ρ c with
    | .bool true => some (ρ a)
    | .bool false => some (ρ b)
    | _ => none
  | .build t ps => buildP P t (ps.toList.map fun p => (p.1, ρ p.2))
  | .nilCheck x => nilChk (ρ x)
  | .binOp op t x y _ => orElse' (binP P op t (ρ x) (ρ y)) (Tk.orc P op t (ρ x) (ρ y))
  | .unOp op _ x => unP P op (ρ x)
  | .convert s d x => orElse' (convP P s d (ρ x)) (convT P s d (ρ x))
  | .fieldAddr t x f => fieldAddrP P t (ρ x) f
  | .field t x f => fieldP P t (ρ x) f
  | .indexAddr t x i => indexAddrP P t (ρ x) (ρ i)
  | .index t x i => indexP P t (ρ x) (ρ i)
  | .slice t x lo hi mx => sliceP P t (ρ x) (lo.map ρ) (hi.map ρ) (mx.map ρ)
  | .extract x i => match ρ x with
    | .tuple vs => vs.toList[i]?
    | _ => none
  | .makeFunc (.func f) a b => some (.func (.func f) (a.map ρ) (b.map ρ))
  | .call { callee := .builtin .len, args, argTypes } => match args.toList, argTypes.toList with
    | [x], [t] => lenP (P.underlying t) (ρ x)
    | _, _ => none
  | .call { callee := .builtin .min, args, .. } => orElse' (min2P (args.toList.map ρ)) (Tk.mm false (args.toList.map ρ))
  | .call { callee := .builtin .max, args, .. } => orElse' (max2P (args.toList.map ρ)) (Tk.mm true (args.toList.map ρ))
  | _ => none

/-! ## Reads -/

def Hp.cell (H : Hp) (a : Addr) : Option Value := match H.get a.block with
  | some (.row _ _ cs) => cs[a.off]?
  | _ => none

def Hp.cells (H : Hp) (a : Addr) (n : Nat) : Option (List Value) := match H.get a.block with
  | some (.row _ _ cs) => if a.off + n ≤ cs.length then some ((cs.drop a.off).take n) else none
  | _ => none

def ld1 (v : Value) (H : Hp) : Option Value := match v with
  | .pointer (some a) => H.cell a
  | _ => none
def ldN (n : Nat) (v : Value) (H : Hp) : Option Value := match v with
  | .pointer (some a) => aggO (H.cells a n)
  | _ => none

def loadP (t : TypeId) (v : Value) : Hp → Option Value :=
  match P.underlying t, P.info? t with
  | some d, some i => match isAggD d with
    | true => ldN i.size v
    | false => ld1 v
  | _, _ => fun _ => none

def bytesOf : List Value → Option (List UInt8)
  | [] => some []
  | .int .u8 n :: l => match bytesOf l with
    | some r => some (UInt8.ofNat n.toNat :: r)
    | none => none
  | _ :: _ => none

/-- Bytes as a text. -/
def strOf (v : Value) (H : Hp) : Option Value := match v with
  | .slice none _ _ => some (.string .empty)
  | .slice (some a) n _ => match H.cells a n with
    | some l => match bytesOf l with
      | some b => some (.string ⟨⟨b⟩⟩)
      | none => none
    | none => none
  | _ => none

def convStrR (s d : TypeId) (x : Value) : Hp → Option Value := match P.underlying s, P.underlying d with
  | some (.slice e), some .string => match P.underlying e with
    | some (.int .u8) => strOf x
    | _ => fun _ => none
  | _, _ => fun _ => none

/-- Two addresses of variables that are there. -/
def isU8 : Option TypeDesc → Bool
  | some (.int .u8) => true
  | _ => false

def ptrEq (op : BinOp) (t : TypeId) (x y : Value) (H : Hp) : Option Value := match isPtrD (P.underlying t), x, y with
  | some e, .pointer (some a), .pointer (some b) => if (Nat.beq (P.cellsOf e) 0 || !(P.info? e).isSome) = true then none else match Nat.beq a.block b.block, H.get a.block, H.get b.block with
    | false, some (.row _ e1 _), some (.row _ e2 _) => match isU8 (P.underlying e1), isU8 (P.underlying e2) with
      | false, false => eqOp op (some false)
      | _, _ => none
    | _, _, _ => none
  | _, _, _ => none

/-- A piece of a slice whose row is there, of elements of that type. -/
def sliceLive (e : TypeId) (sz : Nat) (x : Value) (lo hi mx : Option Value) (H : Hp) : Option Value := match x with
  | .slice none _ _ => sliceSl sz x lo hi mx
  | .slice (some a) _ _ => match H.get a.block with
    | some (.row _ e' _) => match Nat.beq e' e with
      | true => sliceSl sz x lo hi mx
      | false => none
    | _ => none
  | _ => none

def sliceR (t : TypeId) (x : Value) (lo hi mx : Option Value) : Hp → Option Value := match P.underlying t with
  | some (.slice e) => match P.info? e, hi, mx with
    | some _, none, some _ => fun _ => none
    | some ei, hi, mx => sliceLive e ei.size x lo hi mx
    | none, _, _ => fun _ => none
  | _ => fun _ => none

def readOp (o : Op) (ρ : Operand → Value) : Hp → Option Value := match o with
  | .load t a => loadP P t (ρ a)
  | .convert s d x => convStrR P s d (ρ x)
  | .slice t x lo hi mx => sliceR P t (ρ x) (lo.map ρ) (hi.map ρ) (mx.map ρ)
  | .binOp op t x y _ => fun H => orElse' (binP P op t (ρ x) (ρ y)) (ptrEq P op t (ρ x) (ρ y) H)
  | _ => fun _ => none

/-! ## What makes memory -/

/-- (element type, cells, the value at the new block) -/
def allocOp (o : Op) (ρ : Operand → Value) : Option (TypeId × List Value × (Nat → Value)) := match o with
  | .alloc t => match P.info? t with
    | some i => match zc i with
      | some z => some (t, z, fun b => .pointer (some ⟨b, 0, none⟩))
      | none => none
    | none => none
  | .box t x => some (t, (ρ x).cells.toList, fun b => .pointer (some ⟨b, 0, none⟩))
  | .buildSlice t n ps => match P.underlying t with
    | some (.slice e) => match P.info? e with
      | some ei => match zc ei with
        | some z => if z.length = ei.size ∧ 0 < n * ei.size ∧ n * ei.size ≤ 16777216 then
            match partsOf (fun i => some (i * ei.size, ei.size)) (ps.toList.map fun p => (p.1, ρ p.2)) with
            | some l => match bldL (List.replicate n z).flatten l with
              | some cs => some (e, cs, fun b => .slice (some ⟨b, 0, none⟩) n n)
              | none => none
            | none => none
          else none
        | none => none
      | none => none
    | _ => none
  | _ => none

def newB (t : TypeId) (cs : List Value) (f : Nat → Value) : M Value := fun H => some (f H.next, (H.bump 1).set H.next (.row false t cs))
def newAt (b : Nat) (t : TypeId) (cs : List Value) (f : Nat → Value) : M Value := fun H => match H.get b with
  | none => some (f b, H.set b (.row false t cs))
  | some _ => none

def allocM (r : Option (TypeId × List Value × (Nat → Value))) : M Value := match r with
  | some (t, cs, f) => newB t cs f
  | none => M.fail
def allocMAt (b : Nat) (r : Option (TypeId × List Value × (Nat → Value))) : M Value := match r with
  | some (t, cs, f) => newAt b t cs f
  | none => M.fail

/-! ## What writes -/

def undefV : Value := .tuple #[]

def wr (a : Addr) (vs : List Value) : M Unit := fun H => match H.get a.block with
  | some (.row false e cs) => if a.off + vs.length ≤ cs.length then some ((), H.set a.block (.row false e (cs.take a.off ++ (vs ++ cs.drop (a.off + vs.length))))) else none
  | _ => none

def stN (n : Nat) (p v : Value) : M Value := match p with
  | .pointer (some a) =>
    if v.cells.toList.length = n ∧ v.cells.toList.all oneC = true then M.bind (wr a v.cells.toList) fun _ => M.ret undefV else M.fail
  | _ => M.fail

def storeP (t : TypeId) (p v : Value) : M Value := match P.info? t with
  | some i => stN i.size p v
  | none => M.fail

def cellsOfV (sz : Nat) (x : Value) (H : Hp) : Option (Nat × List Value) := match x with
  | .slice none 0 0 => some (0, [])
  | .slice (some a) n _ => match H.cells a (n * sz) with
    | some l => some (n, l)
    | none => none
  | .string s => some (s.size, s.data.toList.map fun b => .int .u8 b.toNat)
  | _ => none

/-- A row that grows, under a new number. -/
def growV (e sz by_ : Nat) (a : Addr) (len n : Nat) (new : List Value) : M Value := fun H => match H.get a.block with
  | some (.row false e' cs) =>
    if e' = e ∧ a.off + len * sz ≤ cs.length ∧ (len + n) * by_ ≤ 140737488355328 ∧ len + n ≤ 140737488355328 then
      newB e ((cs.drop a.off).take (len * sz) ++ new) (fun b => .slice (some ⟨b, 0, none⟩) (len + n) (len + n)) (H.del a.block)
    else none
  | _ => none

/-- append, of elements of so many cells and bytes. -/
def appendV (e sz by_ : Nat) (s x : Value) : M Value :=
  M.bind (M.look (cellsOfV sz x)) fun nn =>
  if (nn.2.all oneC && Nat.ble 1 sz && Nat.beq nn.2.length (nn.1 * sz)) = true then
    match s with
    | .slice none 0 0 => if nn.1 = 0 then M.ret (.slice none 0 0) else
        if nn.1 * by_ ≤ 140737488355328 ∧ nn.1 ≤ 140737488355328 then newB e nn.2 (fun b => .slice (some ⟨b, 0, none⟩) nn.1 nn.1) else M.fail
    | .slice (some a) len cap =>
      if len + nn.1 ≤ cap then
        if nn.1 = 0 then M.ret (.slice (some a) len cap) else M.bind (wr (a.add (len * sz)) nn.2) fun _ => M.ret (.slice (some a) (len + nn.1) cap)
      else growV e sz by_ a len nn.1 nn.2
    | _ => M.fail
  else M.fail

def appendP (st xt : TypeId) (s x : Value) : M Value := match P.underlying st with
  | some (.slice e) => match P.info? e with
    | some ei => match zc ei, P.underlying xt with
      | some z, some (.slice _) => if z.length = ei.size then appendV e ei.size ei.bytes s x else M.fail
      | some z, some .string => if z.length = ei.size then appendV e ei.size ei.bytes s x else M.fail
      | _, _ => M.fail
    | none => M.fail
  | _ => M.fail

def clearV (z : List Value) (x : Value) : M Value := match x with
  | .slice none _ _ => M.ret undefV
  | .slice (some a) n _ => if (z.all oneC && Nat.ble 1 z.length) = true then
      (if n = 0 then M.ret undefV else M.bind (wr a (List.replicate n z).flatten) fun _ => M.ret undefV) else M.fail
  | _ => M.fail

def clearP (t : TypeId) (x : Value) : M Value := match P.underlying t with
  | some (.slice e) => match P.info? e with
    | some ei => match zc ei with
      | some z => clearV z x
      | none => M.fail
    | none => M.fail
  | _ => M.fail

def mkSlice (e by_ : Nat) (z : List Value) (l c : Value) : M Value := match l, c with
  | .int .i64 l, .int .i64 c => if 0 ≤ l ∧ l ≤ c ∧ c * by_ ≤ 140737488355328 ∧ c ≤ 140737488355328 then
      newB e (List.replicate c.toNat z).flatten (fun b => .slice (some ⟨b, 0, none⟩) l.toNat c.toNat) else M.fail
  | _, _ => M.fail

def makeSliceP (t : TypeId) (l c : Value) : M Value := match P.underlying t with
  | some (.slice e) => match P.info? e with
    | some ei => match zc ei with
      | some z => if z.length = ei.size ∧ 0 < ei.size then mkSlice e ei.bytes z l c else M.fail
      | none => M.fail
    | none => M.fail
  | _ => M.fail

/-- A text as bytes. -/
def bytesV (e : TypeId) (x : Value) : M Value := match x with
  | .string s => newB e (s.data.toList.map fun b => .int .u8 b.toNat) (fun b => .slice (some ⟨b, 0, none⟩) s.size s.size)
  | _ => M.fail

def convBytesP (d : TypeId) (x : Value) : M Value := match P.underlying d with
  | some (.slice e) => match P.underlying e, P.info? e with
    | some (.int .u8), some ei => if ei.size = 1 then bytesV e x else M.fail
    | _, _ => M.fail
  | _ => M.fail

def effOp (o : Op) (ρ : Operand → Value) : M Value := match o with
  | .store t a v => storeP P t (ρ a) (ρ v)
  | .call { callee := .builtin .append, args, argTypes } => match args.toList, argTypes.toList with
    | [s, x], [st, xt] => appendP P st xt (ρ s) (ρ x)
    | _, _ => M.fail
  | .call { callee := .builtin .clear, args, argTypes } => match args.toList, argTypes.toList with
    | [x], [t] => clearP P t (ρ x)
    | _, _ => M.fail
  | .makeSlice t l c => makeSliceP P t (ρ l) (ρ c)
  | .convert _ d x => convBytesP P d (ρ x)
  | _ => M.fail

/-! ## Calls -/

/-- What a call of a function comes to. -/
abbrev Calc := FuncId → List Value → M Value

def callF (C : Calc) (f : FuncId) (args : List Value) : M Value := match P.funcs[f]? with
  | some _ => C f args
  | none => M.fail

def callV (C : Calc) (f : Value) (args : List Value) : M Value := match f with
  | .func (.func f) first cap => callF P C f (first.toList ++ args ++ cap.toList)
  | _ => M.fail

def callOp (C : Calc) (o : Op) (ρ : Operand → Value) : M Value := match o with
  | .call { callee := .value (.func f), args, .. } => callF P C f (args.toList.map ρ)
  | .call { callee := .value f, args, .. } => callV P C (ρ f) (args.toList.map ρ)
  | _ => M.fail

/-! ## Operations -/

inductive Kd where
  | pure | read | alloc | eff | call

def isNilC : Operand → Bool
  | .const (.pointer none) => true
  | _ => false

def kdOf (o : Op) : Kd := match o with
  | .load _ _ => .read
  | .alloc _ => .alloc
  | .box _ _ => .alloc
  | .buildSlice _ _ _ => .alloc
  | .store _ _ _ => .eff
  | .makeSlice _ _ _ => .eff
  | .convert s d _ => match P.underlying s, P.underlying d with
    | some (.slice _), some .string => .read
    | some .string, some (.slice _) => .eff
    | _, _ => .pure
  | .slice t _ _ _ _ => match isSliceD (P.underlying t) with
    | true => .read
    | false => .pure
  | .binOp _ t x y _ => match isPtrD (P.underlying t), isNilC x, isNilC y with
    | some _, false, false => .read
    | _, _, _ => .pure
  | .call { callee := .builtin .append, .. } => .eff
  | .call { callee := .builtin .clear, .. } => .eff
  | .call { callee := .value _, .. } => .call
  | _ => .pure

def okOpd : Operand → Bool
  | .tmp _ => true
  | .const v => noAddr v
  | .global _ => false
  | .func _ => true

def denOp [Tk] (C : Calc) (o : Op) (ρ : Operand → Value) : M Value := match kdOf P o with
  | .pure => M.lift (pureOp P o ρ)
  | .read => M.look (readOp P o ρ)
  | .alloc => allocM (allocOp P o ρ)
  | .eff => effOp P o ρ
  | .call => callOp P C o ρ

abbrev Env := Nat → Value

def upd (env : Env) (d : Nat) (v : Value) : Env := fun t => match Nat.beq t d with
  | true => v
  | false => env t

def updO (env : Env) (d : Option Tmp) (v : Value) : Env := match d with
  | some d => upd env d v
  | none => env

def rhoE (env : Env) : Operand → Value
  | .tmp t => env t
  | .const v => v
  | .global _ => undefV
  | .func f => .func (.func f) #[] #[]

/-- Under a guard. -/
def gd (g : Value) (want : Bool) (m : M Value) : M Value := match g with
  | .bool b => match b == want with
    | true => m
    | false => M.ret undefV
  | _ => M.ret undefV

def dstAt (ops : List Oper) (j : Nat) : Option Tmp := match ops[j]? with
  | some o => o.dst
  | none => none

def guarded (ops : List Oper) (o : Oper) (env : Env) (m : M Value) : M Value := match o.guard with
  | none => m
  | some (g, want) => match dstAt ops g with
    | some d => gd (env d) want m
    | none => M.ret undefV

def denOps [Tk] {R : Type} (C : Calc) (all : List Oper) : List Oper → (Env → M R) → Env → M R
  | [], k, env => k env
  | o :: rest, k, env => M.bind (guarded all o env (denOp P C o.op (rhoE env))) fun v => denOps C all rest k (updO env o.dst v)

/-! ## A region that draws its order: run in the order of the text, with looks that the order is not seen -/

def ancE (acc : List Nat) : List Edge → Nat
  | [] => 0
  | e :: es => match Region.binds .any e with
    | true => (2 ^ e.on ||| acc.getD e.on 0) ||| ancE acc es
    | false => ancE acc es
def ancs : List Oper → List Nat → List Nat
  | [], acc => acc
  | o :: rest, acc => ancs rest (acc ++ [ancE acc o.after.toList])
/-- For each operation the operations that are ordered ahead of it, as bits. -/
def anc (ops : List Oper) : List Nat := ancs ops []

def inAnc (A : List Nat) (i j : Nat) : Bool := (A.getD j 0).testBit i

def isRead : Kd → Bool
  | .read => true
  | _ => false
def isEff : Kd → Bool
  | .eff => true
  | .call => true
  | _ => false
def isAlloc : Kd → Bool
  | .alloc => true
  | _ => false

/-- A look: what was read reads the same here. -/
def chk (f : Hp → Option Value) (v : Value) : M Unit := fun H => match f H with
  | some u => match veq u v with
    | true => some ((), H)
    | false => none
  | none => none
/-- .. and there, on an earlier heap. -/
def chkAt (H0 : Hp) (f : Hp → Option Value) (v : Value) : M Unit := fun H => match f H0 with
  | some u => match veq u v with
    | true => some ((), H)
    | false => none
  | none => none

def gdU (g : Value) (want : Bool) (m : M Unit) : M Unit := match g with
  | .bool b => match b == want with
    | true => m
    | false => M.ret ()
  | _ => M.ret ()

def guardedU (ops : List Oper) (o : Oper) (env : Env) (m : M Unit) : M Unit := match o.guard with
  | none => m
  | some (g, want) => match dstAt ops g with
    | some d => gdU (env d) want m
    | none => M.ret ()

def seqU : List (M Unit) → M Unit
  | [] => M.ret ()
  | [m] => m
  | m :: l => M.bind m fun _ => seqU l

def getH : M Hp := fun H => some (H, H)

structure Rd where
  j : Nat
  o : Oper
  env : Env
  v : Value

/-- The looks behind operation i, an effect: at each read ahead of it in the text that is not ordered to it. -/
def looksBehind (A : List Nat) (all : List Oper) (i : Nat) (rs : List Rd) : List (M Unit) :=
  (rs.filter fun r => !inAnc A r.j i).map fun r => guardedU all r.o r.env (chk (readOp P r.o.op (rhoE r.env)) r.v)

/-- The looks at a read: on the heap ahead of each effect ahead of it in the text that is not ordered to it. -/
def looksAhead (A : List Nat) (all : List Oper) (r : Rd) (es : List (Nat × Hp)) : List (M Unit) :=
  (es.filter fun e => !inAnc A e.1 r.j).map fun e => guardedU all r.o r.env (chkAt e.2 (readOp P r.o.op (rhoE r.env)) r.v)

def withLooks {R : Type} (l : List (M Unit)) (k : M R) : M R := match l with
  | [] => k
  | l => M.bind (seqU l) fun _ => k

/-- Is there a read behind i in the text that is not ordered to it? -/
def needsHp (A : List Nat) (i : Nat) (rest : List Oper) : Bool :=
  (rest.zipIdx (i + 1)).any fun (o, j) => isRead (kdOf P o.op) && !inAnc A i j

def denOpsD [Tk] {R : Type} (C : Calc) (A : List Nat) (all : List Oper) (base : Nat) :
    List Oper → Nat → List Rd → List (Nat × Hp) → (Env → M R) → Env → M R
  | [], _, _, _, k, env => k env
  | o :: rest, i, rs, es, k, env => match kdOf P o.op with
    | .pure => M.bind (guarded all o env (M.lift (pureOp P o.op (rhoE env)))) fun v => denOpsD C A all base rest (i + 1) rs es k (updO env o.dst v)
    | .read => M.bind (guarded all o env (M.look (readOp P o.op (rhoE env)))) fun v =>
        withLooks (looksAhead P A all ⟨i, o, env, v⟩ es) (denOpsD C A all base rest (i + 1) (⟨i, o, env, v⟩ :: rs) es k (updO env o.dst v))
    | .alloc => M.bind (guarded all o env (allocMAt (base + i) (allocOp P o.op (rhoE env)))) fun v =>
        denOpsD C A all base rest (i + 1) rs es k (updO env o.dst v)
    | .eff => match needsHp P A i rest with
      | true => M.bind getH fun H0 => M.bind (guarded all o env (effOp P o.op (rhoE env))) fun v =>
          withLooks (looksBehind P A all i rs) (denOpsD C A all base rest (i + 1) rs ((i, H0) :: es) k (updO env o.dst v))
      | false => M.bind (guarded all o env (effOp P o.op (rhoE env))) fun v =>
          withLooks (looksBehind P A all i rs) (denOpsD C A all base rest (i + 1) rs es k (updO env o.dst v))
    | .call => match needsHp P A i rest with
      | true => M.bind getH fun H0 => M.bind (guarded all o env (callOp P C o.op (rhoE env))) fun v =>
          withLooks (looksBehind P A all i rs) (denOpsD C A all base rest (i + 1) rs ((i, H0) :: es) k (updO env o.dst v))
      | false => M.bind (guarded all o env (callOp P C o.op (rhoE env))) fun v =>
          withLooks (looksBehind P A all i rs) (denOpsD C A all base rest (i + 1) rs es k (updO env o.dst v))

def bumpBy {R : Type} (n : Nat) (k : Nat → M R) : M R := fun H => k H.next (H.bump n)

def denRegion [Tk] {R : Type} (C : Calc) (ops : Array Oper) (draw : Bool) (k : Env → M R) (env : Env) : M R := match draw with
  | false => denOps P C ops.toList ops.toList k env
  | true => match ops.toList.any (fun o => isAlloc (kdOf P o.op)) with
    | true => bumpBy ops.size fun b => denOpsD P C (anc ops.toList) ops.toList b ops.toList 0 [] [] k env
    | false => denOpsD P C (anc ops.toList) ops.toList 0 ops.toList 0 [] [] k env

/-! ## Code -/

def branch {R : Type} (c : Value) (a b : M R) : M R := match c with
  | .bool true => a
  | .bool false => b
  | _ => M.fail

def fuel : Nat := 1000000000

def denC [Tk] {R : Type} (C : Calc) : Code → (Env → M R) → (Nat → Env → M R) → (Env → M R) → Env → M R
  | .skip, kn, _, _, env => kn env
  | .region _ ops draw, kn, _, _, env => denRegion P C ops draw kn env
  | .seq a b, kn, kx, kr, env => denC C a (denC C b kn kx kr) kx kr env
  | .cond c a b, kn, kx, kr, env => branch (rhoE env c) (denC C a kn kx kr env) (denC C b kn kx kr env)
  | .block id body, kn, kx, kr, env => denC C body kn (fun j e => match Nat.beq j id with
      | true => kn e
      | false => kx j e) kr env
  | .loop body, _, kx, kr, env => iterE (fun _ => M.fail) (fun self e => denC C body self kx kr e) fuel env
  | .exit id, _, kx, _, env => kx id env
  | .ret, _, _, kr, env => kr env
  | _, _, _, _, _ => M.fail

def resV (r : ResultVar) (env : Env) : M Value := match r with
  | .tmp t => M.ret (env t)
  | .cell a t => M.look (loadP P t (env a))

def resVs : List ResultVar → Env → (List Value → M Value) → M Value
  | [], _, k => k []
  | r :: rs, env, k => M.bind (resV P r env) fun v => resVs rs env fun l => k (v :: l)

def resM (rs : List ResultVar) (env : Env) : M Value := match rs with
  | [r] => resV P r env
  | rs => resVs P rs env fun l => M.ret (.tuple ⟨l⟩)

def initE (args : List Value) : Env := fun t => args.getD t undefV

def denF [Tk] (C : Calc) (f : Func) (args : List Value) : M Value := match f.body with
  | some c => match Nat.ble args.length f.ntmps with
    | true => denC P C c (resM P f.results.toList) (fun _ _ => M.fail) (resM P f.results.toList) (initE args)
    | false => M.fail
  | none => M.fail

end
end Go.Lk
