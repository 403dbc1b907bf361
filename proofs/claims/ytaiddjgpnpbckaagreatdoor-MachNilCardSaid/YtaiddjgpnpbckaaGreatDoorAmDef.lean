/- A second meaning for the model's code, without capacities, orders and places: definitions. -/
import GoSem.Step
set_option autoImplicit false
namespace Go.Am

inductive AV where
  | int (k : IntKind) (n : Int)
  | bool (b : Bool)
  | str (l : List Nat)
  | nilp
  | ptr (r off : Nat)
  | ptrL (cells : List AV) (off : Nat)
  | sl (r off len es : Nat) (tight : Bool)
  | lst (cells : List AV) (len : Nat) (tight nl : Bool)
  | mp (r : Option Nat)
  /-- a pointer to what is known by its meaning alone -/
  | hptr (n : Nat)
  | fn (f : Fn) (first captured : List AV)
  | nilfn
  | ifc (t : TypeId) (v : AV)
  | nilifc
  | agg (cells : List AV)
  | tup (vs : List AV)
  | undef
  deriving Inhabited

def AV.cells : AV → List AV
  | .agg cs => cs
  | v => [v]

/-! Trees that are read by a number's binary places. -/
inductive Tr (α : Type) where
  | nil
  | node (v : Option α) (l r : Tr α)

def pathF : Nat → Nat → List Bool
  | 0, _ => []
  | f + 1, n => bif n.beq 0 then [] else ((n - 1) % 2).beq 1 :: pathF f ((n - 1) / 2)
def pathOf (n : Nat) : List Bool := pathF n n

def Tr.getP {α : Type} : List Bool → Tr α → Option α
  | [], .nil => none
  | [], .node v _ _ => v
  | _ :: _, .nil => none
  | b :: p, .node _ l r => bif b then Tr.getP p r else Tr.getP p l

def Tr.setP {α : Type} (x : α) : List Bool → Tr α → Tr α
  | [], .nil => .node (some x) .nil .nil
  | [], .node _ l r => .node (some x) l r
  | b :: p, .nil => bif b then .node none .nil (Tr.setP x p .nil) else .node none (Tr.setP x p .nil) .nil
  | b :: p, .node v l r => bif b then .node v l (Tr.setP x p r) else .node v (Tr.setP x p l) r

def Tr.get {α : Type} (t : Tr α) (n : Nat) : Option α := t.getP (pathOf n)
def Tr.set {α : Type} (t : Tr α) (n : Nat) (x : α) : Tr α := t.setP x (pathOf n)

structure Row where
  vals : List AV
  root : Nat
  pos : Nat
  ep : Nat
  fep : Nat
  ext : Nat
  solo : Bool
  /-- the type of its block's elements -/
  ty : TypeId

/-- A thing that is known by its meaning alone: its kind, numbers, rows of values, names. -/
structure Hid where
  kind : Nat
  nums : List Int
  rows : List (Int × List (Int × Int))
  names : List (List Nat)

inductive AObj where
  | row (o : Row)
  | mapo (es : List (AV × AV))
  | siter (s : List Nat) (pos : Nat)
  | hid (d : Hid)

structure St where
  next : Nat
  heap : Tr AObj

def St.get (s : St) (r : Nat) : Option AObj := s.heap.get r
def St.set (s : St) (r : Nat) (o : AObj) : St := { s with heap := s.heap.set r o }
def St.push (s : St) (o : AObj) : St := ⟨s.next + 1, s.heap.set s.next o⟩
def St.empty : St := ⟨0, .nil⟩

mutual
def toV : AV → Option Value
  | .int k n => some (.int k n)
  | .bool b => some (.bool b)
  | .str l => some (.string ⟨(l.map UInt8.ofNat).toArray⟩)
  | .nilp => some (.pointer none)
  | .nilfn => some .nilFunc
  | .nilifc => some .nilIface
  | .mp none => some (.map none)
  | .ifc t v => match toV v with | some x => some (.iface t x) | none => none
  | .agg cs => match toVs cs with | some xs => some (.agg xs.toArray) | none => none
  | .tup cs => match toVs cs with | some xs => some (.tuple xs.toArray) | none => none
  | .lst [] 0 true true => some (.slice none 0 0)
  | _ => none
def toVs : List AV → Option (List Value)
  | [] => some []
  | a :: l => match toV a, toVs l with | some x, some xs => some (x :: xs) | _, _ => none
end

mutual
def ofV : Value → Option AV
  | .int k n => some (.int k n)
  | .bool b => some (.bool b)
  | .string s => some (.str (s.data.toList.map (·.toNat)))
  | .pointer none => some .nilp
  | .nilFunc => some .nilfn
  | .nilIface => some .nilifc
  | .map none => some (.mp none)
  | .slice none 0 0 => some (.lst [] 0 true true)
  | .iface t v => match ofV v with | some x => some (.ifc t x) | none => none
  | .agg ⟨cs⟩ => match ofVs cs with | some xs => some (.agg xs) | none => none
  | .tuple ⟨cs⟩ => match ofVs cs with | some xs => some (.tup xs) | none => none
  | .func f ⟨[]⟩ ⟨[]⟩ => some (.fn f [] [])
  | _ => none
def ofVs : List Value → Option (List AV)
  | [] => some []
  | a :: l => match ofV a, ofVs l with | some x, some xs => some (x :: xs) | _, _ => none
end

/-- What a deferred function may recover: none of its business; nothing (any more); this. -/
inductive Rc where
  | no
  | dead
  | live (v : AV)

structure T where
  tr : Tr AV
  n : Nat
  ds : List (FuncId × List AV)
  rc : Rc

def getT (p : List Bool) (t : T) : AV := match t.tr.getP p with | some v => v | none => .undef
def T.put (t : T) (d : Nat) (p : List Bool) (v : AV) : T := bif Nat.blt d t.n then { t with tr := t.tr.setP v p } else t

inductive Out where
  | normal
  | exit (id : Nat)
  | ret
  | panic (v : AV)

inductive Res where
  | ret (v : AV) (s : St)
  | panic (v : AV) (s : St)
  | fail

inductive Nx where
  | val (v : AV) (s : St)
  | skip (s : St)
  | dfr (f : FuncId) (args : List AV) (s : St)
  | panic (v : AV) (s : St)
  | fail

inductive Ex where
  | mk (o : Out) (t : T) (s : St)
  | fail

abbrev CF := FuncId → List AV → St → Res
abbrev OpF := T → St → Nx
abbrev K := T → St → Ex

/-- What the package-level variables hold that are read: cells that stay. -/
structure Glob where
  at_ : Nat → Option (List AV)
  /-- what is said of things that are known by their meaning alone: the thing, its block, all of its blocks -/
  H : Hid → Nat → (Nat → Prop) → World → Prop

/-- what an operand is -/
def evC (G : Glob) (x : Operand) : T → AV :=
  match x with
  | .tmp i => getT (pathOf i)
  | .const v => match ofV v with | some c => fun _ => c | none => fun _ => .undef
  | .global g => match G.at_ g with | some cs => fun _ => .ptrL cs 0 | none => fun _ => .undef
  | .func f => fun _ => .fn (.func f) [] []

def evL (G : Glob) : List Operand → T → List AV
  | [], _ => []
  | x :: l, t => evC G x t :: evL G l t

section
variable (P : Program)

def still {α : Type} : Sem α → Option α
  | .pure a => some a
  | .program k => still (k P)
  | _ => none

def isAggT (t : TypeId) : Option Bool :=
  match P.underlying t with
  | some (.struct _) | some (.array _ _) => some true
  | some _ => some false
  | none => none
def sizeT (t : TypeId) : Option Nat := (P.info? t).map (·.size)
def bytesT (t : TypeId) : Option Nat := (P.info? t).map (·.bytes)
def zeroT (t : TypeId) : Option AV := ((P.info? t).bind (·.zero)).bind ofV
def sliceElemT (t : TypeId) : Option TypeId :=
  match P.underlying t with
  | some (.slice e) => some e
  | _ => none
/-- aggregates: `some n`; one cell: none -/
def shapeT (t : TypeId) : Option (Option Nat) :=
  match isAggT P t, sizeT P t with
  | some true, some n => some (some n)
  | some false, some _ => some none
  | _, _ => none
end

/-- the first n of a list, if it has so many -/
def takeN : Nat → List AV → Option (List AV)
  | 0, _ => some []
  | _ + 1, [] => none
  | k + 1, x :: r => match takeN k r with | some q => some (x :: q) | none => none

def cutN (n off : Nat) (l : List AV) : Option (List AV) := takeN n (l.drop off)

def valid (s : St) (o : Row) : Bool :=
  bif o.solo then true else match s.get o.root with | some (.row q) => o.ep.beq q.fep | _ => false

def rowAt (s : St) (r : Nat) : Option Row :=
  match s.get r with
  | some (.row o) => bif valid s o then some o else none
  | _ => none

def cellsAt (n : Nat) (a : AV) (s : St) : Option (List AV) :=
  match a with
  | .ptr r off => match rowAt s r with
    | some o => cutN n off o.vals
    | none => none
  | .ptrL cs off => cutN n off cs
  | _ => none

def cell1 (a : AV) (s : St) : Option AV :=
  match a with
  | .ptr r off => match rowAt s r with
    | some o => o.vals[off]?
    | none => none
  | .ptrL cs off => cs[off]?
  | _ => none

def valO (x : Option AV) (s : St) : Nx := match x with | some v => .val v s | none => .fail
def aggO (x : Option (List AV)) (s : St) : Nx := match x with | some v => .val (.agg v) s | none => .fail
def skipO (x : Option St) : Nx := match x with | some s => .skip s | none => .fail

def loadC (sh : Option (Option Nat)) (e : T → AV) : OpF :=
  match sh with
  | some (some n) => fun t s => aggO (cellsAt n (e t) s) s
  | some none => fun t s => valO (cell1 (e t) s) s
  | none => fun _ _ => .fail

/-- l with new in the place of what stands from off on -/
def overwrite : List AV → Nat → List AV → Option (List AV)
  | l, 0, [] => some l
  | [], 0, _ :: _ => none
  | _ :: l', 0, x :: r => match overwrite l' 0 r with | some q => some (x :: q) | none => none
  | [], _ + 1, _ => none
  | y :: l, k + 1, new => match overwrite l k new with | some q => some (y :: q) | none => none

def storeCellsA (s : St) (r off : Nat) (new : List AV) : Option St :=
  match rowAt s r with
  | some o => match overwrite o.vals off new with
    | some vals =>
      bif o.solo then some (s.set r (.row { o with vals := vals }))
      else match s.get o.root with
        | some (.row q) =>
          bif o.root.beq r then some (s.set r (.row { o with vals := vals, fep := q.fep + 1, ep := q.fep + 1 }))
          else some ((s.set o.root (.row { q with fep := q.fep + 1 })).set r (.row { o with vals := vals, ep := q.fep + 1 }))
        | _ => none
    | none => none
  | none => none

/-- a cell holds no struct -/
def AV.single : AV → Bool
  | .agg _ | .tup _ | .undef => false
  | _ => true

def storeC (n : Option Nat) (a x : T → AV) : OpF :=
  match n with
  | some n => fun t s => match a t with
    | .ptr r off => bif n.beq (x t).cells.length && (x t).cells.all AV.single then skipO (storeCellsA s r off (x t).cells) else .fail
    | _ => .fail
  | none => fun _ _ => .fail

def newRow (s : St) (ty : TypeId) (vals : List AV) : AObj := .row { vals := vals, root := s.next, pos := 0, ep := 0, fep := 0, ext := vals.length, solo := true, ty := ty }
def pushRow (s : St) (ty : TypeId) (vals : List AV) : St := s.push (newRow s ty vals)

def AV.isDef : AV → Bool
  | .undef => false
  | _ => true

def fillA (cells : List AV) : List ((Nat × Nat) × AV) → Option (List AV)
  | [] => some cells
  | ((off, size), v) :: rest =>
    bif size.beq v.cells.length && v.isDef then
      match overwrite cells off v.cells with | some cs => fillA cs rest | none => none
    else none

def replic : Nat → List AV → List AV
  | 0, _ => []
  | n + 1, z => z ++ replic n z

def bytesA (l : List Nat) : List AV := l.map fun (n : Nat) => AV.int .u8 n

/-- the cells of the first m elements of a slice, or of a string -/
def elemsN (es m : Nat) (a : AV) (s : St) : Option (List AV) :=
  match a with
  | .lst cs _ _ _ => takeN (m * es) cs
  | .sl r off len es' _ => bif m.beq 0 then some [] else bif es.beq es' && Nat.ble m len then cellsAt (m * es) (.ptr r off) s else none
  | .str l => bif es.beq 1 then some (bytesA (l.take m)) else none
  | _ => none

def lenA (a : AV) : Option Nat :=
  match a with
  | .lst _ n _ _ => some n
  | .sl _ _ n _ _ => some n
  | .str l => some l.length
  | _ => none

/-- append: a new row, of the same family where the old one may have had room. -/
def appendT (s : St) (es r off len : Nat) (new : List AV) (n : Nat) (o q : Row) : Nx :=
  match cutN (len * es) off o.vals with
  | some old =>
    let e := o.pos + off + len * es
    let f := bif Nat.ble q.ext e then q.fep else q.fep + 1
    let x := e + n * es
    let ext := bif Nat.ble q.ext x then x else q.ext
    let s1 := bif o.root.beq r then s.set r (.row { o with solo := false, ep := (bif o.solo then q.fep else o.ep), fep := f, ext := ext })
      else (s.set o.root (.row { q with fep := f, ext := ext }))
    .val (.sl s1.next 0 (len + n) es false) (s1.push (.row { vals := old ++ new, root := o.root, pos := o.pos + off, ep := f, fep := 0, ext := 0, solo := false, ty := o.ty }))
  | none => .fail

def appendA (ty : TypeId) (es : Nat) (a : AV) (new : List AV) (n : Nat) (s : St) : Nx :=
  match a with
  | .lst cs len tight nl => bif n.beq 0 then .val (.lst cs len tight nl) s else
    bif tight && cs.length.beq (len * es) then .val (.sl s.next 0 (len + n) es false) (pushRow s ty (cs ++ new)) else .fail
  | .sl r off len es' tight => bif n.beq 0 then .val (.sl r off len es' tight) s else
    bif es.beq es' then
      match rowAt s r with
      | some o => bif o.ty.beq ty then
        bif tight then match cutN (len * es) off o.vals with
          | some old => .val (.sl s.next 0 (len + n) es false) (pushRow s ty (old ++ new))
          | none => .fail
        else match s.get o.root with
          | some (.row q) => appendT s es r off len new n o q
          | _ => .fail
        else .fail
      | none => .fail
    else .fail
  | _ => .fail

def eqNs : List Nat → List Nat → Bool
  | [], [] => true
  | a :: l, b :: r => bif a.beq b then eqNs l r else false
  | _, _ => false

def eqI : Int → Int → Bool
  | .ofNat a, .ofNat b => a.beq b
  | .negSucc a, .negSucc b => a.beq b
  | _, _ => false

def kindEq : IntKind → IntKind → Bool
  | .i8, .i8 | .i16, .i16 | .i32, .i32 | .i64, .i64 | .u8, .u8 | .u16, .u16 | .u32, .u32 | .u64, .u64 => true
  | _, _ => false

/-- what a map is keyed by -/
inductive KK where
  | str
  | int (k : IntKind)

def isKey : KK → AV → Bool
  | .str, .str _ => true
  | .int k, .int j _ => kindEq k j
  | _, _ => false

/-- are two keys the same? -/
def eqKey : KK → AV → AV → Option Bool
  | .str, .str a, .str b => some (eqNs a b)
  | .int kd, .int j a, .int k b => bif kindEq kd j && kindEq kd k then some (eqI a b) else none
  | _, _, _ => none

def findA (d : KK) (k : AV) : List (AV × AV) → Option (Option AV)
  | [] => some none
  | (x, v) :: l => match eqKey d k x with | some b => bif b then some (some v) else findA d k l | none => none

def putA (d : KK) (k v : AV) : List (AV × AV) → Option (List (AV × AV))
  | [] => some [(k, v)]
  | (x, u) :: l => match eqKey d k x with
    | some b => bif b then some ((k, v) :: l) else match putA d k v l with | some q => some ((x, u) :: q) | none => none
    | none => none

section
variable (P : Program) (G : Glob)

/-- an operation none of whose operands leads to memory, by the model's own text -/
def plainRun (o : Oper) (t : T) : Option AV :=
  match toVs (evL G o.op.operands.toList t) with
  | none => none
  | some _ =>
    match still P (execOp (fun x => match toV (evC G x t) with | some v => v | none => .tuple #[]) o) with
    | some (.value v) => ofV v
    | _ => none
def plainC (o : Oper) : OpF := fun t s => valO (plainRun P G o t) s
end

def natOf (x : AV) : Option Nat := match x with | .int _ (.ofNat n) => some n | _ => none
def bound (d : Nat) (x : Option AV) : Option Nat := match x with | none => some d | some v => natOf v

def sliceA (es : Nat) (x : AV) (lo hi mx : Option AV) : Option AV :=
  match x with
  | .str b =>
    match bound 0 lo, bound b.length hi, mx with
    | some l, some h, none => bif Nat.ble l h && Nat.ble h b.length then some (.str ((b.drop l).take (h - l))) else none
    | _, _, _ => none
  | .lst cs len tight nl =>
    match bound 0 lo, bound len hi with
    | some l, some h => bif Nat.ble l h && Nat.ble h len then
        match mx, hi with
        | none, _ => some (.lst ((cs.drop (l * es)).take ((h - l) * es)) (h - l) (tight && h.beq len) nl)
        | some m, some _ => match natOf m with | some mi => bif mi.beq h then some (.lst ((cs.drop (l * es)).take ((h - l) * es)) (h - l) true nl) else none | none => none
        | some _, none => none
      else none
    | _, _ => none
  | .sl r off len es' tight =>
    match bound 0 lo, bound len hi with
    | some l, some h => bif Nat.ble l h && Nat.ble h len && es.beq es' then
        match mx, hi with
        | none, _ => some (.sl r (off + l * es) (h - l) es (tight && h.beq len))
        | some m, some _ => match natOf m with | some mi => bif mi.beq h then some (.sl r (off + l * es) (h - l) es true) else none | none => none
        | some _, none => none
      else none
    | _, _ => none
  | _ => none

def ptrAdd : AV → Nat → Option AV
  | .ptr r off, n => some (.ptr r (off + n))
  | .ptrL cs off, n => some (.ptrL cs (off + n))
  | _, _ => none

def failC : OpF := fun _ _ => .fail

def leI : Int → Int → Bool
  | .ofNat a, .ofNat b => Nat.ble a b
  | .negSucc _, .ofNat _ => true
  | .ofNat _, .negSucc _ => false
  | .negSucc a, .negSucc b => Nat.ble b a

/-- Go's operators on two integers of one kind, the quick ones. -/
def intOp (op : BinOp) : Option (IntKind → Int → Int → AV) :=
  match op with
  | .add => some fun k a b => .int k (k.wrap (a + b))
  | .sub => some fun k a b => .int k (k.wrap (a - b))
  | .mul => some fun k a b => .int k (k.wrap (a * b))
  | .eql => some fun _ a b => .bool (eqI a b)
  | .neq => some fun _ a b => .bool (!eqI a b)
  | .lss => some fun _ a b => .bool (!leI b a)
  | .leq => some fun _ a b => .bool (leI a b)
  | .gtr => some fun _ a b => .bool (!leI a b)
  | .geq => some fun _ a b => .bool (leI b a)
  | _ => none

def strOp (op : BinOp) : Option (List Nat → List Nat → AV) :=
  match op with
  | .add => some fun a b => bif Nat.ble (a.length + b.length) 9223372036854775807 then .str (a ++ b) else .undef
  | .eql => some fun a b => .bool (eqNs a b)
  | .neq => some fun a b => .bool (!eqNs a b)
  | _ => none

section
variable (P : Program) (G : Glob)

/-- one side is nil -/
def nilEq (d : Option TypeDesc) (x y : AV) : Option Bool :=
  match d with
  | some (.pointer _) => match x, y with
    | .nilp, .ptr _ _ | .ptr _ _, .nilp | .nilp, .ptrL _ _ | .ptrL _ _, .nilp | .nilp, .hptr _ | .hptr _, .nilp => some false
    | _, _ => none
  | some (.slice _) => match x, y with
    | .lst _ _ _ nl, .lst [] 0 true true => some nl
    | .lst [] 0 true true, .lst _ _ _ nl => some nl
    | .sl _ _ (_ + 1) _ _, .lst [] 0 true true => some false
    | .lst [] 0 true true, .sl _ _ (_ + 1) _ _ => some false
    | _, _ => none
  | some (.map _ _) => match x, y with
    | .mp (some _), .mp none | .mp none, .mp (some _) => some false
    | _, _ => none
  | some (.func _ _ _) => match x, y with
    | .fn _ _ _, .nilfn | .nilfn, .fn _ _ _ => some false
    | _, _ => none
  | some (.interface _) => match x, y with
    | .ifc _ _, .nilifc | .nilifc, .ifc _ _ => some false
    | _, _ => none
  | _ => none

def nilEqC (d : Option TypeDesc) (neg : Bool) (x y : T → AV) (k : OpF) : OpF := fun t s =>
  match nilEq d (x t) (y t) with
  | some b => .val (.bool (bif neg then !b else b)) s
  | none => k t s

/-- two pointers to one place -/
def ptrEqC (ok neg : Bool) (x y : T → AV) (k : OpF) : OpF := fun t s => match x t, y t with
  | .ptr r a, .ptr q b => bif ok && (r.beq q && a.beq b) then .val (.bool !neg) s else .fail
  | _, _ => k t s

def ptrT (ty : TypeId) : Bool :=
  match P.underlying ty with
  | some (.pointer e) => (sizeT P e).isSome
  | _ => false

def intT (ty : TypeId) : Bool := match P.underlying ty with | some (.int _) => true | _ => false
/-- are two structs of numbers alike? -/
def intsEq (a b : List AV) : List Field → Option Bool
  | [] => some true
  | f :: fs => match a[f.offset]?, b[f.offset]? with
    | some (.int k m), some (.int k' n) => bif kindEq k k' && (f.name != "_" && intT P f.type) then
        match intsEq a b fs with | some u => some (bif eqI m n then u else false) | none => none
      else none
    | _, _ => none
def structEqC (ty : TypeId) (neg : Bool) (x y : T → AV) (k : OpF) : OpF :=
  match P.underlying ty with
  | some (.struct fields) => bif !P.stoodInHeld ty && !P.eqGuardType P.depth ty then fun t s => match x t, y t with
    | .agg a, .agg b => match intsEq P a b fields.toList with
      | some u => .val (.bool (bif neg then !u else u)) s
      | none => k t s
    | _, _ => k t s
    else k
  | _ => k

def elseC (o : Oper) (op : BinOp) (ty : TypeId) (x y : T → AV) : OpF :=
  match op with
  | .eql => structEqC P ty false x y (ptrEqC (ptrT P ty) false x y (nilEqC (P.underlying ty) false x y (plainC P G o)))
  | .neq => structEqC P ty true x y (ptrEqC (ptrT P ty) true x y (nilEqC (P.underlying ty) true x y (plainC P G o)))
  | _ => plainC P G o

def binInt (k : OpF) (f : IntKind → Int → Int → AV) (x y : T → AV) : OpF := fun t s => match x t, y t with
  | .int k a, .int k' b => bif kindEq k k' then .val (f k a b) s else .fail
  | _, _ => k t s

def defO (v : AV) (s : St) : Nx := match v with | .undef => .fail | v => .val v s

def binC (o : Oper) (op : BinOp) (ty : TypeId) (x y : T → AV) : OpF :=
  match intOp op, strOp op with
  | some f, some g => let h := binInt (elseC P G o op ty x y) f x y; fun t s => match x t, y t with
    | .str a, .str b => defO (g a b) s
    | _, _ => h t s
  | some f, none => binInt (elseC P G o op ty x y) f x y
  | _, _ => plainC P G o

def pickC (c a b : T → AV) : OpF := fun t s => match c t with | .bool u => .val (bif u then a t else b t) s | _ => .fail

def boxC (ty : TypeId) (x : T → AV) : OpF := fun t s => bif (x t).cells.all AV.single then .val (.ptr s.next 0) (pushRow s ty (x t).cells) else .fail
def allocC (ty : TypeId) (z : Option AV) : OpF := match z with | some z => fun _ s => .val (.ptr s.next 0) (pushRow s ty z.cells) | none => failC

def zipParts (pl : List (Option (Nat × Nat))) (xs : List (T → AV)) (t : T) : Option (List ((Nat × Nat) × AV)) :=
  match pl, xs with
  | [], [] => some []
  | some p :: pl, x :: xs => match zipParts pl xs t with | some q => some ((p, x t) :: q) | none => none
  | _, _ => none

def placesT (fields : Array Field) : Option (List (Nat × Nat)) := fields.toList.mapM fun f => (P.info? f.type).map fun i => (f.offset, i.size)

def buildC (ty : TypeId) (parts : List (Nat × Operand)) : OpF :=
  match zeroT P ty, P.underlying ty with
  | some (.agg z), some (.struct fields) => match placesT P fields with
    | some places =>
      let pl := parts.map fun p => places[p.1]?
      let xs := parts.map fun p => evC G p.2
      fun t s => match zipParts pl xs t with
      | some ps => aggO (fillA z ps) s
      | none => .fail
    | none => failC
  | some (.agg z), some (.array _ e) => match sizeT P e with
    | some n =>
      let pl := parts.map fun p => some (p.1 * n, n)
      let xs := parts.map fun p => evC G p.2
      fun t s => match zipParts pl xs t with
      | some ps => aggO (fillA z ps) s
      | none => .fail
    | none => failC
  | _, _ => failC

def buildSliceC (ty : TypeId) (len : Nat) (parts : List (Nat × Operand)) : OpF :=
  match sliceElemT P ty with
  | some e => match sizeT P e, zeroT P e with
    | some n, some z =>
      bif n.beq z.cells.length && Nat.ble (len * n) 16777216 && Nat.blt 0 n then
      let pl := parts.map fun p => some (p.1 * n, n)
      let xs := parts.map fun p => evC G p.2
      let zs := replic len z.cells
      fun t s => match zipParts pl xs t with
      | some ps => match fillA zs ps with
        | some cs => bif cs.all AV.single then .val (.sl s.next 0 len n true) (pushRow s e cs) else .fail
        | none => .fail
      | none => .fail
      else failC
    | _, _ => failC
  | none => failC

def nilCheckC (x : T → AV) : OpF := fun t s => match x t with
  | .ptr r off => .val (.ptr r off) s
  | .ptrL c n => .val (.ptrL c n) s
  | .hptr n => .val (.hptr n) s
  | .fn (.func f) a b => .val (.fn (.func f) a b) s
  | _ => .fail

def fieldAddrC (ty : TypeId) (f : Nat) (x : T → AV) : OpF :=
  match P.underlying ty with
  | some (.struct fields) => match fields[f]? with
    | some fd => match sizeT P fd.type with
      | some (_ + 1) => fun t s => valO (ptrAdd (x t) fd.offset) s
      | _ => failC
    | none => failC
  | _ => failC

def fieldC (ty : TypeId) (f : Nat) (x : T → AV) : OpF :=
  match P.underlying ty with
  | some (.struct fields) => match fields[f]? with
    | some fd => match shapeT P fd.type with
      | some (some n) => fun t s => match x t with | .agg cs => aggO (cutN n fd.offset cs) s | _ => .fail
      | some none => fun t s => match x t with | .agg cs => valO (cs[fd.offset]?) s | _ => .fail
      | none => failC
    | none => failC
  | _ => failC

def nonNil : List AV → Bool
  | [] => false
  | _ :: _ => true

def indexAddrC (ty : TypeId) (x i : T → AV) : OpF :=
  match P.underlying ty with
  | some (.slice e) => match sizeT P e with
    | some n => fun t s => match natOf (i t), x t with
      | some i, .sl r off len es _ => bif Nat.blt i len && n.beq es then .val (.ptr r (off + i * n)) s else .fail
      | some i, .lst cs len _ _ => bif Nat.blt i len && nonNil cs then .val (.ptrL cs (i * n)) s else .fail
      | _, _ => .fail
    | none => failC
  | some (.array len e) => match sizeT P e with
    | some n => fun t s => match natOf (i t) with
      | some i => bif Nat.blt i len then valO (ptrAdd (x t) (i * n)) s else .fail
      | _ => .fail
    | none => failC
  | _ => failC

def indexC (ty : TypeId) (x i : T → AV) : OpF :=
  match P.underlying ty with
  | some .string => fun t s => match natOf (i t), x t with
    | some i, .str l => match l[i]? with | some b => .val (.int .u8 b) s | none => .fail
    | _, _ => .fail
  | some (.array len e) => match shapeT P e, sizeT P e with
    | some (some n), _ => fun t s => match natOf (i t), x t with
      | some i, .agg cs => bif Nat.blt i len then aggO (cutN n (i * n) cs) s else .fail
      | _, _ => .fail
    | some none, some n => fun t s => match natOf (i t), x t with
      | some i, .agg cs => bif Nat.blt i len then valO (cs[i * n]?) s else .fail
      | _, _ => .fail
    | _, _ => failC
  | _ => failC

def optE (x : Option (T → AV)) (t : T) : Option AV := match x with | some f => some (f t) | none => none

def sliceC (ty : TypeId) (x : T → AV) (lo hi mx : Option (T → AV)) : OpF :=
  match P.underlying ty with
  | some (.slice e) => match sizeT P e with
    | some n => fun t s => match x t with
      | .str _ => .fail
      | a => valO (sliceA n a (optE lo t) (optE hi t) (optE mx t)) s
    | none => failC
  | some .string => fun t s => match x t with
    | .str b => valO (sliceA 1 (.str b) (optE lo t) (optE hi t) (optE mx t)) s
    | _ => .fail
  | some (.array len e) => match sizeT P e with
    | some n => fun t s => match x t with
      | .ptr r off => match s.get r with
        | some (.row o) => bif Nat.ble (off + len * n) o.vals.length then valO (sliceA n (.sl r off len n true) (optE lo t) (optE hi t) (optE mx t)) s else .fail
        | _ => .fail
      | _ => .fail
    | none => failC
  | _ => failC

def extractC (i : Nat) (x : T → AV) : OpF := fun t s => match x t with | .tup vs => valO (vs[i]?) s | _ => .fail

def makeSliceC (ty : TypeId) (l c : T → AV) : OpF :=
  match sliceElemT P ty with
  | some e => match zeroT P e, sizeT P e, bytesT P e with
    | some z, some n, some b => bif n.beq z.cells.length && Nat.ble b 65536 then
      fun t s => match natOf (l t), natOf (c t) with
      | some l, some c => bif Nat.ble l c && Nat.ble c 1073741824 then .val (.sl s.next 0 l n (l.beq c)) (pushRow s e (replic l z.cells)) else .fail
      | _, _ => .fail
      else failC
    | _, _, _ => failC
  | none => failC

def mapEs (m : AV) (s : St) : Option (List (AV × AV)) :=
  match m with
  | .mp none => some []
  | .mp (some r) => match s.get r with | some (.mapo es) => some es | _ => none
  | _ => none

def keyT (t : TypeId) : Option KK :=
  match P.underlying t with
  | some .string => some .str
  | some (.int k) => some (.int k)
  | _ => none

def lookupC (ty : TypeId) (m k : T → AV) (ok : Bool) : OpF :=
  match P.underlying ty with
  | some (.map kt e) => match zeroT P e, keyT P kt with
    | some z, some d => fun t s => bif isKey d (k t) then match mapEs (m t) s with
      | some es => match findA d (k t) es with
        | some (some x) => .val (bif ok then .tup [x, .bool true] else x) s
        | some none => .val (bif ok then .tup [z, .bool false] else z) s
        | none => .fail
      | none => .fail
      else .fail
    | _, _ => failC
  | _ => failC

def mapUpdateC (ty : TypeId) (m k x : T → AV) : OpF :=
  match P.underlying ty with
  | some (.map kt _) => match keyT P kt with
    | some d => fun t s => bif isKey d (k t) then match m t with
      | .mp (some r) => match s.get r with
        | some (.mapo es) => match putA d (k t) (x t) es with | some es => .skip (s.set r (.mapo es)) | none => .fail
        | _ => .fail
      | _ => .fail
      else .fail
    | none => failC
  | _ => failC

def typeAssertC (x : T → AV) (asserted : TypeId) (ok : Bool) : OpF :=
  match P.underlying asserted with
  | some (.interface _) => failC
  | some _ => match zeroT P asserted with
    | some z => fun t s => match x t with
      | .nilifc => bif ok then .val (.tup [z, .bool false]) s else .fail
      | .ifc ty y => bif ty.beq asserted then .val (bif ok then .tup [y, .bool true] else y) s
        else bif ok then .val (.tup [z, .bool false]) s else .fail
      | _ => .fail
    | none => failC
  | none => failC

/-- a slice or a string -/
def seqT (t : TypeId) : Bool :=
  match P.underlying t with
  | some (.slice _) | some .string => true
  | _ => false

def appendC (ty tx : TypeId) (a x : T → AV) : OpF :=
  bif seqT P tx then
  match sliceElemT P ty with
  | some e => match sizeT P e, bytesT P e, zeroT P e with
    | some n, some b, some z => bif Nat.ble b 65536 && n.beq z.cells.length then
        fun t s => match lenA (x t), lenA (a t) with
        | some k, some j => bif Nat.ble (j + k) 1073741824 then
            match elemsN n k (x t) s with
            | some new => bif new.all AV.single then appendA e n (a t) new k s else .fail
            | none => .fail
          else .fail
        | _, _ => .fail
      else failC
    | _, _, _ => failC
  | none => failC
  else failC

def lenC (ty : TypeId) (x : T → AV) : OpF :=
  match P.underlying ty with
  | some (.slice _) => fun t s => match x t with
    | .lst _ n _ _ => .val (.int .i64 n) s
    | .sl _ _ n _ _ => .val (.int .i64 n) s
    | _ => .fail
  | some .string => fun t s => match x t with | .str l => .val (.int .i64 l.length) s | _ => .fail
  | some (.map _ _) => fun t s => match mapEs (x t) s with | some es => .val (.int .i64 es.length) s | none => .fail
  | some (.array n _) => fun _ s => .val (.int .i64 n) s
  | _ => failC

def capC (ty : TypeId) (x : T → AV) : OpF :=
  match P.underlying ty with
  | some (.slice _) => fun t s => match x t with
    | .sl _ _ n _ true => .val (.int .i64 n) s
    | .lst _ n true _ => .val (.int .i64 n) s
    | _ => .fail
  | _ => failC

def copyC (ty : TypeId) (d x : T → AV) : OpF :=
  match sliceElemT P ty with
  | some e => match sizeT P e with
    | some n => fun t s => match d t, lenA (x t) with
      | .sl r off dl es _, some k => bif n.beq es then
          bif (Nat.min k dl).beq 0 then .val (.int .i64 0) s else
          match elemsN n (Nat.min k dl) (x t) s with
          | some new => bif new.all AV.single then match storeCellsA s r off new with | some s => .val (.int .i64 (Nat.min k dl : Nat)) s | none => .fail else .fail
          | none => .fail
        else .fail
      | _, _ => .fail
    | none => failC
  | none => failC

def backNx (r : Res) : Nx := match r with | .ret v s => .val v s | .panic v s => .panic v s | .fail => .fail

def callC (callF : CF) (f : Operand) (args : List Operand) : OpF :=
  match f with
  | .func g => let h := callF g; fun t s => backNx (h (evL G args t) s)
  | _ => let e := evC G f; fun t s => match e t with
    | .fn (.func g) first captured => backNx (callF g (first ++ evL G args t ++ captured) s)
    | _ => .fail

def deferC (f : Operand) (args : List Operand) : OpF :=
  let e := evC G f; fun t s => match e t with
    | .fn (.func g) first captured => .dfr g (first ++ evL G args t ++ captured) s
    | _ => .fail

def bytesOf : List AV → Option (List Nat)
  | [] => some []
  | .int .u8 (.ofNat n) :: l => bif Nat.blt n 256 then match bytesOf l with | some q => some (n :: q) | none => none else none
  | _ => none

def convertC (o : Oper) (src dst : TypeId) (x : T → AV) : OpF :=
  match P.underlying src, P.underlying dst with
  | some .string, some (.slice e) => match P.underlying e, sizeT P e with
    | some (.int .u8), some 1 => fun t s => match x t with
      | .str l => .val (.lst (bytesA l) l.length false false) s
      | _ => .fail
    | _, _ => failC
  | some (.slice e), some .string => match P.underlying e with
    | some (.int .u8) => fun t s => match lenA (x t) with
      | some n => match x t with
        | .str _ => .fail
        | a => match elemsN 1 n a s with
          | some cs => match bytesOf cs with | some l => .val (.str l) s | none => .fail
          | none => .fail
      | none => .fail
    | _ => failC
  | some (.int _), some (.int k) => fun t s => match x t with | .int _ n => .val (.int k (k.wrap n)) s | _ => .fail
  | _, _ => plainC P G o

/-- nobody in a row's family is valid any more -/
def retire (s : St) (o : Row) : Option St :=
  match s.get o.root with
  | some (.row q) => some (s.set o.root (.row { q with solo := false, fep := q.fep + 1 }))
  | _ => none

/-- unsafe.String: the bytes; their memory is closed -/
def unsafeStringC (pt : TypeId) (x n : T → AV) : OpF :=
  match P.underlying pt with
  | some (.pointer e) => match sizeT P e with
    | some 1 => fun t s => match n t, x t with
      | .int .i64 (.ofNat 0), .nilp => .val (.str []) s
      | .int .i64 (.ofNat 0), .ptr _ _ => .val (.str []) s
      | .int .i64 (.ofNat (k + 1)), .ptr r off => match rowAt s r with
        | some o => bif o.ty.beq e && Nat.ble (k + 1) 9223372036854775807 then
            match cutN (k + 1) off o.vals with
            | some cs => match bytesOf cs with
              | some l => match retire s o with | some s' => .val (.str l) s' | none => .fail
              | none => .fail
            | none => .fail
          else .fail
        | none => .fail
      | _, _ => .fail
    | _ => failC
  | _ => failC

/-- a pointer as an unsafe.Pointer; and back, to the one variable at a block's head -/
def toUnsafeC (u : TypeId) (x : T → AV) : OpF :=
  match sizeT P u with
  | some (_ + 1) => fun t s => match x t with
    | .nilp => .val .nilp s
    | .ptr r off => match rowAt s r with
      | some o => bif Nat.blt off o.vals.length then .val (.ptr r off) s else .fail
      | none => .fail
    | _ => .fail
  | _ => failC
def fromUnsafeC (u : TypeId) (x : T → AV) : OpF :=
  match sizeT P u with
  | some (n + 1) => fun t s => match x t with
    | .nilp => .val .nilp s
    | .ptr r 0 => match rowAt s r with
      | some o => bif o.root.beq r && (o.ty.beq u && Nat.ble (n + 1) o.vals.length) then .val (.ptr r 0) s else .fail
      | none => .fail
    | _ => .fail
  | _ => failC
def convC (o : Oper) (src dst : TypeId) (x : T → AV) : OpF :=
  match P.underlying src, P.underlying dst with
  | some (.pointer u), some .unsafePointer => toUnsafeC P u x
  | some .unsafePointer, some (.pointer u) => fromUnsafeC P u x
  | _, _ => convertC P G o src dst x

def sliceDataC (x : T → AV) : OpF := fun t s => match x t with
  | .lst [] 0 true true => .val .nilp s
  | .sl r off (_ + 1) _ _ => .val (.ptr r off) s
  | .lst (c :: cs) (_ + 1) _ _ => .val (.ptrL (c :: cs) 0) s
  | _ => .fail

def builtinC (o : Oper) (b : Builtin) (args : List Operand) (ts : List TypeId) : OpF :=
  match b, args, ts with
  | .append, [a, x], [ty, tx] => appendC P ty tx (evC G a) (evC G x)
  | .len, [x], [ty] => lenC P ty (evC G x)
  | .cap, [x], [ty] => capC P ty (evC G x)
  | .copy, [d, x], [ty, _] => copyC P ty (evC G d) (evC G x)
  | .unsafeSliceData, [x], [_] => sliceDataC (evC G x)
  | .unsafeString, [x, n], [pt, _] => unsafeStringC P pt (evC G x) (evC G n)
  | .append, _, _ | .len, _, _ | .cap, _, _ | .copy, _, _ | .recover, _, _ => failC
  | _, _, _ => plainC P G o

def makeInterfaceC (ty : TypeId) (x : T → AV) : OpF :=
  match P.underlying ty with
  | some (.interface _) => failC
  | some _ => fun t s => .val (.ifc ty (x t)) s
  | none => failC

def panicC (x : T → AV) : OpF := fun t s => match x t with
  | .ifc ty v => .panic (.ifc ty v) s
  | _ => .fail

def opC (callF : CF) (o : Oper) : OpF :=
  match o.op with
  | .move x => let e := evC G x; fun t s => .val (e t) s
  | .assign x => let e := evC G x; fun t s => .val (e t) s
  | .pick c a b => pickC (evC G c) (evC G a) (evC G b)
  | .alloc e => allocC e (zeroT P e)
  | .box e x => boxC e (evC G x)
  | .build ty parts => buildC P G ty parts.toList
  | .buildSlice ty len parts => buildSliceC P G ty len parts.toList
  | .load ty a => loadC (shapeT P ty) (evC G a)
  | .store ty a x => storeC (sizeT P ty) (evC G a) (evC G x)
  | .nilCheck x => nilCheckC (evC G x)
  | .fieldAddr ty x f => fieldAddrC P ty f (evC G x)
  | .field ty x f => fieldC P ty f (evC G x)
  | .indexAddr ty x i => indexAddrC P ty (evC G x) (evC G i)
  | .index ty x i => indexC P ty (evC G x) (evC G i)
  | .slice ty x lo hi mx => sliceC P ty (evC G x) (lo.map (evC G)) (hi.map (evC G)) (mx.map (evC G))
  | .extract x i => extractC i (evC G x)
  | .makeFunc f a b => fun t s => .val (.fn f (evL G a.toList t) (evL G b.toList t)) s
  | .makeInterface ty x => makeInterfaceC P ty (evC G x)
  | .makeSlice ty l c => makeSliceC P ty (evC G l) (evC G c)
  | .makeMap _ none => fun _ s => .val (.mp (some s.next)) (s.push (.mapo []))
  | .lookup ty m k ok => lookupC P ty (evC G m) (evC G k) ok
  | .mapUpdate ty m k x => mapUpdateC P ty (evC G m) (evC G k) (evC G x)
  | .typeAssert x _ asserted ok => typeAssertC P (evC G x) asserted ok
  | .panic x => panicC (evC G x)
  | .binOp op ty x y _ => binC P G o op ty (evC G x) (evC G y)
  | .unOp _ _ _ => plainC P G o
  | .convert src dst x => convC P G o src dst (evC G x)
  | .call { callee := .value f, args := args, .. } => callC G callF f args.toList
  | .call { callee := .builtin b, args := args, argTypes := ts } => builtinC P G o b args.toList ts.toList
  | .defer { callee := .value f, args := args, .. } => deferC G f args.toList
  | _ => failC
end
end Go.Am
