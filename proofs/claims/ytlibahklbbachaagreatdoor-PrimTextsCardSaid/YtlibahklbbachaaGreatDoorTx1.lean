import GoSem.Step
import Derived.Laws.AppendOwn
import Derived.Laws.Sem
import Derived.Below
set_option autoImplicit false
set_option maxRecDepth 100000
set_option linter.unusedSimpArgs false
set_option linter.unusedVariables false
section
namespace Go.Am
inductive AV where
  | int (k : IntKind) (n : Int)
  | bool (b : Bool)
  | str (l : List Nat)
  | nilp
  | ptr (r off : Nat)
  | ptrL (cells : List AV) (off : Nat)
  | sl (r off len es : Nat) (tight : Bool)
  | lst (cells : List AV) (len : Nat) (tight nl : Bool)
  | mp (r : Option Nat)
  /-- a pointer to what is known by its meaning alone -/
  | hptr (n : Nat)
  | fn (f : Fn) (first captured : List AV)
  | nilfn
  | ifc (t : TypeId) (v : AV)
  | nilifc
  | agg (cells : List AV)
  | tup (vs : List AV)
  /-- this very value, of one cell -/
  | lit (v : Value)
  | undef
  deriving Inhabited
def AV.cells : AV → List AV
  | .agg cs => cs
  | v => [v]
/-! Trees that are read by a number's binary places. -/
inductive Tr (α : Type) where
  | nil
  | node (v : Option α) (l r : Tr α)
def pathF : Nat → Nat → List Bool
  | 0, _ => []
  | f + 1, n => bif n.beq 0 then [] else ((n - 1) % 2).beq 1 :: pathF f ((n - 1) / 2)
def pathOf (n : Nat) : List Bool := pathF n n
def Tr.getP {α : Type} : List Bool → Tr α → Option α
  | [], .nil => none
  | [], .node v _ _ => v
  | _ :: _, .nil => none
  | b :: p, .node _ l r => bif b then Tr.getP p r else Tr.getP p l
def Tr.setP {α : Type} (x : α) : List Bool → Tr α → Tr α
  | [], .nil => .node (some x) .nil .nil
  | [], .node _ l r => .node (some x) l r
  | b :: p, .nil => bif b then .node none .nil (Tr.setP x p .nil) else .node none (Tr.setP x p .nil) .nil
  | b :: p, .node v l r => bif b then .node v l (Tr.setP x p r) else .node v (Tr.setP x p l) r
def Tr.get {α : Type} (t : Tr α) (n : Nat) : Option α := t.getP (pathOf n)
def Tr.set {α : Type} (t : Tr α) (n : Nat) (x : α) : Tr α := t.setP x (pathOf n)
structure Row where
  vals : List AV
  root : Nat
  pos : Nat
  ep : Nat
  fep : Nat
  ext : Nat
  solo : Bool
  /-- the type of its block's elements -/
  ty : TypeId
structure Hid where
  kind : Nat
  nums : List Int
  rows : List (Int × List (Int × Int))
  names : List (List Nat)
inductive AObj where
  | row (o : Row)
  | mapo (es : List (AV × AV))
  | siter (s : List Nat) (pos : Nat)
  | hid (d : Hid)
structure St where
  next : Nat
  heap : Tr AObj
def St.get (s : St) (r : Nat) : Option AObj := s.heap.get r
def St.set (s : St) (r : Nat) (o : AObj) : St := { s with heap := s.heap.set r o }
def St.push (s : St) (o : AObj) : St := ⟨s.next + 1, s.heap.set s.next o⟩
def St.empty : St := ⟨0, .nil⟩
mutual
def toV : AV → Option Value
  | .int k n => some (.int k n)
  | .bool b => some (.bool b)
  | .str l => some (.string ⟨(l.map UInt8.ofNat).toArray⟩)
  | .nilp => some (.pointer none)
  | .nilfn => some .nilFunc
  | .nilifc => some .nilIface
  | .mp none => some (.map none)
  | .ifc t v => match toV v with | some x => some (.iface t x) | none => none
  | .agg cs => match toVs cs with | some xs => some (.agg xs.toArray) | none => none
  | .tup cs => match toVs cs with | some xs => some (.tuple xs.toArray) | none => none
  | .lst [] 0 true true => some (.slice none 0 0)
  | _ => none
def toVs : List AV → Option (List Value)
  | [] => some []
  | a :: l => match toV a, toVs l with | some x, some xs => some (x :: xs) | _, _ => none
end
mutual
def ofV : Value → Option AV
  | .int k n => some (.int k n)
  | .bool b => some (.bool b)
  | .string s => some (.str (s.data.toList.map (·.toNat)))
  | .pointer none => some .nilp
  | .nilFunc => some .nilfn
  | .nilIface => some .nilifc
  | .map none => some (.mp none)
  | .slice none 0 0 => some (.lst [] 0 true true)
  | .iface t v => match ofV v with | some x => some (.ifc t x) | none => none
  | .agg ⟨cs⟩ => match ofVs cs with | some xs => some (.agg xs) | none => none
  | .tuple ⟨cs⟩ => match ofVs cs with | some xs => some (.tup xs) | none => none
  | .func f ⟨[]⟩ ⟨[]⟩ => some (.fn f [] [])
  | _ => none
def ofVs : List Value → Option (List AV)
  | [] => some []
  | a :: l => match ofV a, ofVs l with | some x, some xs => some (x :: xs) | _, _ => none
end
inductive Rc where
  | no
  | dead
  | live (v : AV)
structure T where
  tr : Tr AV
  n : Nat
  ds : List (FuncId × List AV)
  rc : Rc
def getT (p : List Bool) (t : T) : AV := match t.tr.getP p with | some v => v | none => .undef
def T.put (t : T) (d : Nat) (p : List Bool) (v : AV) : T := bif Nat.blt d t.n then { t with tr := t.tr.setP v p } else t
inductive Out where
  | normal
  | exit (id : Nat)
  | ret
  | panic (v : AV)
inductive Res where
  | ret (v : AV) (s : St)
  | panic (v : AV) (s : St)
  | fail
inductive Nx where
  | val (v : AV) (s : St)
  | skip (s : St)
  | dfr (f : FuncId) (args : List AV) (s : St)
  | panic (v : AV) (s : St)
  | fail
inductive Ex where
  | mk (o : Out) (t : T) (s : St)
  | fail
abbrev CF := FuncId → List AV → St → Res
abbrev OpF := T → St → Nx
abbrev K := T → St → Ex
structure Glob where
  at_ : Nat → Option (List AV)
  /-- what is said of things that are known by their meaning alone: the thing, its block, all of its blocks -/
  H : Hid → Nat → (Nat → Prop) → World → Prop
  /-- a slice that is read out of the first of these rows leads to the second one (else nothing is said) -/
  orc : Option (Nat × Nat) := none
  /-- how many cells a variable has -/
  siz : Nat → Option Nat := fun _ => none
def evC (G : Glob) (x : Operand) : T → AV :=
  match x with
  | .tmp i => getT (pathOf i)
  | .const v => match ofV v with | some c => fun _ => c | none => fun _ => .undef
  | .global g => match G.at_ g with | some cs => fun _ => .ptrL cs 0 | none => fun _ => .undef
  | .func f => fun _ => .fn (.func f) [] []
def evL (G : Glob) : List Operand → T → List AV
  | [], _ => []
  | x :: l, t => evC G x t :: evL G l t
section
variable (P : Program)
def still {α : Type} : Sem α → Option α
  | .pure a => some a
  | .program k => still (k P)
  | _ => none
def isAggT (t : TypeId) : Option Bool :=
  match P.underlying t with
  | some (.struct _) | some (.array _ _) => some true
  | some _ => some false
  | none => none
def sizeT (t : TypeId) : Option Nat := (P.info? t).map (·.size)
def bytesT (t : TypeId) : Option Nat := (P.info? t).map (·.bytes)
def zeroT (t : TypeId) : Option AV := ((P.info? t).bind (·.zero)).bind ofV
def sliceElemT (t : TypeId) : Option TypeId :=
  match P.underlying t with
  | some (.slice e) => some e
  | _ => none
def shapeT (t : TypeId) : Option (Option Nat) :=
  match isAggT P t, sizeT P t with
  | some true, some n => some (some n)
  | some false, some _ => some none
  | _, _ => none
end
def takeN : Nat → List AV → Option (List AV)
  | 0, _ => some []
  | _ + 1, [] => none
  | k + 1, x :: r => match takeN k r with | some q => some (x :: q) | none => none
def cutN (n off : Nat) (l : List AV) : Option (List AV) := takeN n (l.drop off)
def valid (s : St) (o : Row) : Bool :=
  bif o.solo then true else match s.get o.root with | some (.row q) => o.ep.beq q.fep | _ => false
def rowAt (s : St) (r : Nat) : Option Row :=
  match s.get r with
  | some (.row o) => bif valid s o then some o else none
  | _ => none
def cellsAt (n : Nat) (a : AV) (s : St) : Option (List AV) :=
  match a with
  | .ptr r off => match rowAt s r with
    | some o => cutN n off o.vals
    | none => none
  | .ptrL cs off => cutN n off cs
  | _ => none
def cell1 (a : AV) (s : St) : Option AV :=
  match a with
  | .ptr r off => match rowAt s r with
    | some o => o.vals[off]?
    | none => none
  | .ptrL cs off => cs[off]?
  | _ => none
def valO (x : Option AV) (s : St) : Nx := match x with | some v => .val v s | none => .fail
def aggO (x : Option (List AV)) (s : St) : Nx := match x with | some v => .val (.agg v) s | none => .fail
def skipO (x : Option St) : Nx := match x with | some s => .skip s | none => .fail
def loadC (sh : Option (Option Nat)) (e : T → AV) : OpF :=
  match sh with
  | some (some n) => fun t s => aggO (cellsAt n (e t) s) s
  | some none => fun t s => valO (cell1 (e t) s) s
  | none => fun _ _ => .fail
def overwrite : List AV → Nat → List AV → Option (List AV)
  | l, 0, [] => some l
  | [], 0, _ :: _ => none
  | _ :: l', 0, x :: r => match overwrite l' 0 r with | some q => some (x :: q) | none => none
  | [], _ + 1, _ => none
  | y :: l, k + 1, new => match overwrite l k new with | some q => some (y :: q) | none => none
def storeCellsA (s : St) (r off : Nat) (new : List AV) : Option St :=
  match rowAt s r with
  | some o => match overwrite o.vals off new with
    | some vals =>
      bif o.solo then some (s.set r (.row { o with vals := vals }))
      else match s.get o.root with
        | some (.row q) =>
          bif o.root.beq r then some (s.set r (.row { o with vals := vals, fep := q.fep + 1, ep := q.fep + 1 }))
          else some ((s.set o.root (.row { q with fep := q.fep + 1 })).set r (.row { o with vals := vals, ep := q.fep + 1 }))
        | _ => none
    | none => none
  | none => none
def AV.single : AV → Bool
  | .agg _ | .tup _ | .undef => false
  | _ => true
def storeC (n : Option Nat) (a x : T → AV) : OpF :=
  match n with
  | some n => fun t s => match a t with
    | .ptr r off => bif n.beq (x t).cells.length && (x t).cells.all AV.single then skipO (storeCellsA s r off (x t).cells) else .fail
    | _ => .fail
  | none => fun _ _ => .fail
def newRow (s : St) (ty : TypeId) (vals : List AV) : AObj := .row { vals := vals, root := s.next, pos := 0, ep := 0, fep := 0, ext := vals.length, solo := true, ty := ty }
def pushRow (s : St) (ty : TypeId) (vals : List AV) : St := s.push (newRow s ty vals)
def AV.isDef : AV → Bool
  | .undef => false
  | _ => true
def fillA (cells : List AV) : List ((Nat × Nat) × AV) → Option (List AV)
  | [] => some cells
  | ((off, size), v) :: rest =>
    bif size.beq v.cells.length && v.isDef then
      match overwrite cells off v.cells with | some cs => fillA cs rest | none => none
    else none
def replic : Nat → List AV → List AV
  | 0, _ => []
  | n + 1, z => z ++ replic n z
def bytesA (l : List Nat) : List AV := l.map fun (n : Nat) => AV.int .u8 n
def elemsN (es m : Nat) (a : AV) (s : St) : Option (List AV) :=
  match a with
  | .lst cs _ _ _ => takeN (m * es) cs
  | .sl r off len es' _ => bif m.beq 0 then some [] else bif es.beq es' && Nat.ble m len then cellsAt (m * es) (.ptr r off) s else none
  | .str l => bif es.beq 1 then some (bytesA (l.take m)) else none
  | _ => none
def lenA (a : AV) : Option Nat :=
  match a with
  | .lst _ n _ _ => some n
  | .sl _ _ n _ _ => some n
  | .str l => some l.length
  | _ => none
def appendT (s : St) (es r off len : Nat) (new : List AV) (n : Nat) (o q : Row) : Nx :=
  match cutN (len * es) off o.vals with
  | some old =>
    let e := o.pos + off + len * es
    let f := bif Nat.ble q.ext e then q.fep else q.fep + 1
    let x := e + n * es
    let ext := bif Nat.ble q.ext x then x else q.ext
    let s1 := bif o.root.beq r then s.set r (.row { o with solo := false, ep := (bif o.solo then q.fep else o.ep), fep := f, ext := ext })
      else (s.set o.root (.row { q with fep := f, ext := ext }))
    .val (.sl s1.next 0 (len + n) es false) (s1.push (.row { vals := old ++ new, root := o.root, pos := o.pos + off, ep := f, fep := 0, ext := 0, solo := false, ty := o.ty }))
  | none => .fail
def appendA (ty : TypeId) (es : Nat) (a : AV) (new : List AV) (n : Nat) (s : St) : Nx :=
  match a with
  | .lst cs len tight nl => bif n.beq 0 then .val (.lst cs len tight nl) s else
    bif tight && cs.length.beq (len * es) then .val (.sl s.next 0 (len + n) es false) (pushRow s ty (cs ++ new)) else .fail
  | .sl r off len es' tight => bif n.beq 0 then .val (.sl r off len es' tight) s else
    bif es.beq es' then
      match rowAt s r with
      | some o => bif o.ty.beq ty then
        bif tight then match cutN (len * es) off o.vals with
          | some old => .val (.sl s.next 0 (len + n) es false) (pushRow s ty (old ++ new))
          | none => .fail
        else match s.get o.root with
          | some (.row q) => appendT s es r off len new n o q
          | _ => .fail
        else .fail
      | none => .fail
    else .fail
  | _ => .fail
def eqNs : List Nat → List Nat → Bool
  | [], [] => true
  | a :: l, b :: r => bif a.beq b then eqNs l r else false
  | _, _ => false
def eqI : Int → Int → Bool
  | .ofNat a, .ofNat b => a.beq b
  | .negSucc a, .negSucc b => a.beq b
  | _, _ => false
def kindEq : IntKind → IntKind → Bool
  | .i8, .i8 | .i16, .i16 | .i32, .i32 | .i64, .i64 | .u8, .u8 | .u16, .u16 | .u32, .u32 | .u64, .u64 => true
  | _, _ => false
inductive KK where
  | str
  | int (k : IntKind)
def isKey : KK → AV → Bool
  | .str, .str _ => true
  | .int k, .int j _ => kindEq k j
  | _, _ => false
def eqKey : KK → AV → AV → Option Bool
  | .str, .str a, .str b => some (eqNs a b)
  | .int kd, .int j a, .int k b => bif kindEq kd j && kindEq kd k then some (eqI a b) else none
  | _, _, _ => none
def findA (d : KK) (k : AV) : List (AV × AV) → Option (Option AV)
  | [] => some none
  | (x, v) :: l => match eqKey d k x with | some b => bif b then some (some v) else findA d k l | none => none
def putA (d : KK) (k v : AV) : List (AV × AV) → Option (List (AV × AV))
  | [] => some [(k, v)]
  | (x, u) :: l => match eqKey d k x with
    | some b => bif b then some ((k, v) :: l) else match putA d k v l with | some q => some ((x, u) :: q) | none => none
    | none => none
section
variable (P : Program) (G : Glob)
def plainRun (o : Oper) (t : T) : Option AV :=
  match toVs (evL G o.op.operands.toList t) with
  | none => none
  | some _ =>
    match still P (execOp (fun x => match toV (evC G x t) with | some v => v | none => .tuple #[]) o) with
    | some (.value v) => ofV v
    | _ => none
def plainC (o : Oper) : OpF := fun t s => valO (plainRun P G o t) s
end
def natOf (x : AV) : Option Nat := match x with | .int _ (.ofNat n) => some n | _ => none
def bound (d : Nat) (x : Option AV) : Option Nat := match x with | none => some d | some v => natOf v
def sliceA (es : Nat) (x : AV) (lo hi mx : Option AV) : Option AV :=
  match x with
  | .str b =>
    match bound 0 lo, bound b.length hi, mx with
    | some l, some h, none => bif Nat.ble l h && Nat.ble h b.length then some (.str ((b.drop l).take (h - l))) else none
    | _, _, _ => none
  | .lst cs len tight nl =>
    match bound 0 lo, bound len hi with
    | some l, some h => bif Nat.ble l h && Nat.ble h len then
        match mx, hi with
        | none, _ => some (.lst ((cs.drop (l * es)).take ((h - l) * es)) (h - l) (tight && h.beq len) nl)
        | some m, some _ => match natOf m with | some mi => bif mi.beq h then some (.lst ((cs.drop (l * es)).take ((h - l) * es)) (h - l) true nl) else none | none => none
        | some _, none => none
      else none
    | _, _ => none
  | .sl r off len es' tight =>
    match bound 0 lo, bound len hi with
    | some l, some h => bif Nat.ble l h && Nat.ble h len && es.beq es' then
        match mx, hi with
        | none, _ => some (.sl r (off + l * es) (h - l) es (tight && h.beq len))
        | some m, some _ => match natOf m with | some mi => bif mi.beq h then some (.sl r (off + l * es) (h - l) es true) else none | none => none
        | some _, none => none
      else none
    | _, _ => none
  | _ => none
def ptrAdd : AV → Nat → Option AV
  | .ptr r off, n => some (.ptr r (off + n))
  | .ptrL cs off, n => some (.ptrL cs (off + n))
  | _, _ => none
def failC : OpF := fun _ _ => .fail
def leI : Int → Int → Bool
  | .ofNat a, .ofNat b => Nat.ble a b
  | .negSucc _, .ofNat _ => true
  | .ofNat _, .negSucc _ => false
  | .negSucc a, .negSucc b => Nat.ble b a
def intOp (op : BinOp) : Option (IntKind → Int → Int → AV) :=
  match op with
  | .add => some fun k a b => .int k (k.wrap (a + b))
  | .sub => some fun k a b => .int k (k.wrap (a - b))
  | .mul => some fun k a b => .int k (k.wrap (a * b))
  | .eql => some fun _ a b => .bool (eqI a b)
  | .neq => some fun _ a b => .bool (!eqI a b)
  | .lss => some fun _ a b => .bool (!leI b a)
  | .leq => some fun _ a b => .bool (leI a b)
  | .gtr => some fun _ a b => .bool (!leI a b)
  | .geq => some fun _ a b => .bool (leI b a)
  | _ => none
def strOp (op : BinOp) : Option (List Nat → List Nat → AV) :=
  match op with
  | .add => some fun a b => bif Nat.ble (a.length + b.length) 9223372036854775807 then .str (a ++ b) else .undef
  | .eql => some fun a b => .bool (eqNs a b)
  | .neq => some fun a b => .bool (!eqNs a b)
  | _ => none
section
variable (P : Program) (G : Glob)
def nilEq (d : Option TypeDesc) (x y : AV) : Option Bool :=
  match d with
  | some (.pointer _) => match x, y with
    | .nilp, .ptr _ _ | .ptr _ _, .nilp | .nilp, .ptrL _ _ | .ptrL _ _, .nilp | .nilp, .hptr _ | .hptr _, .nilp => some false
    | _, _ => none
  | some (.slice _) => match x, y with
    | .lst _ _ _ nl, .lst [] 0 true true => some nl
    | .lst [] 0 true true, .lst _ _ _ nl => some nl
    | .sl _ _ (_ + 1) _ _, .lst [] 0 true true => some false
    | .lst [] 0 true true, .sl _ _ (_ + 1) _ _ => some false
    | _, _ => none
  | some (.map _ _) => match x, y with
    | .mp (some _), .mp none | .mp none, .mp (some _) => some false
    | _, _ => none
  | some (.func _ _ _) => match x, y with
    | .fn _ _ _, .nilfn | .nilfn, .fn _ _ _ => some false
    | _, _ => none
  | some (.interface _) => match x, y with
    | .ifc _ _, .nilifc | .nilifc, .ifc _ _ => some false
    | _, _ => none
  | _ => none
def nilEqC (d : Option TypeDesc) (neg : Bool) (x y : T → AV) (k : OpF) : OpF := fun t s =>
  match nilEq d (x t) (y t) with
  | some b => .val (.bool (bif neg then !b else b)) s
  | none => k t s
def ptrEqC (ok neg : Bool) (x y : T → AV) (k : OpF) : OpF := fun t s => match x t, y t with
  | .ptr r a, .ptr q b => bif ok && (r.beq q && a.beq b) then .val (.bool !neg) s else .fail
  | _, _ => k t s
def ptrT (ty : TypeId) : Bool :=
  match P.underlying ty with
  | some (.pointer e) => (sizeT P e).isSome
  | _ => false
def intT (ty : TypeId) : Bool := match P.underlying ty with | some (.int _) => true | _ => false
def intsEq (a b : List AV) : List Field → Option Bool
  | [] => some true
  | f :: fs => match a[f.offset]?, b[f.offset]? with
    | some (.int k m), some (.int k' n) => bif kindEq k k' && (f.name != "_" && intT P f.type) then
        match intsEq a b fs with | some u => some (bif eqI m n then u else false) | none => none
      else none
    | _, _ => none
def structEqC (ty : TypeId) (neg : Bool) (x y : T → AV) (k : OpF) : OpF :=
  match P.underlying ty with
  | some (.struct fields) => bif !P.stoodInHeld ty && !P.eqGuardType P.depth ty then fun t s => match x t, y t with
    | .agg a, .agg b => match intsEq P a b fields.toList with
      | some u => .val (.bool (bif neg then !u else u)) s
      | none => k t s
    | _, _ => k t s
    else k
  | _ => k
def elseC (o : Oper) (op : BinOp) (ty : TypeId) (x y : T → AV) : OpF :=
  match op with
  | .eql => structEqC P ty false x y (ptrEqC (ptrT P ty) false x y (nilEqC (P.underlying ty) false x y (plainC P G o)))
  | .neq => structEqC P ty true x y (ptrEqC (ptrT P ty) true x y (nilEqC (P.underlying ty) true x y (plainC P G o)))
  | _ => plainC P G o
def binInt (k : OpF) (f : IntKind → Int → Int → AV) (x y : T → AV) : OpF := fun t s => match x t, y t with
  | .int k a, .int k' b => bif kindEq k k' then .val (f k a b) s else .fail
  | _, _ => k t s
def defO (v : AV) (s : St) : Nx := match v with | .undef => .fail | v => .val v s
def binC (o : Oper) (op : BinOp) (ty : TypeId) (x y : T → AV) : OpF :=
  match intOp op, strOp op with
  | some f, some g => let h := binInt (elseC P G o op ty x y) f x y; fun t s => match x t, y t with
    | .str a, .str b => defO (g a b) s
    | _, _ => h t s
  | some f, none => binInt (elseC P G o op ty x y) f x y
  | _, _ => plainC P G o
def pickC (c a b : T → AV) : OpF := fun t s => match c t with | .bool u => .val (bif u then a t else b t) s | _ => .fail
def boxC (ty : TypeId) (x : T → AV) : OpF := fun t s => bif (x t).cells.all AV.single then .val (.ptr s.next 0) (pushRow s ty (x t).cells) else .fail
def allocC (ty : TypeId) (z : Option AV) : OpF := match z with | some z => fun _ s => .val (.ptr s.next 0) (pushRow s ty z.cells) | none => failC
def zipParts (pl : List (Option (Nat × Nat))) (xs : List (T → AV)) (t : T) : Option (List ((Nat × Nat) × AV)) :=
  match pl, xs with
  | [], [] => some []
  | some p :: pl, x :: xs => match zipParts pl xs t with | some q => some ((p, x t) :: q) | none => none
  | _, _ => none
def placesT (fields : Array Field) : Option (List (Nat × Nat)) := fields.toList.mapM fun f => (P.info? f.type).map fun i => (f.offset, i.size)
def buildC (ty : TypeId) (parts : List (Nat × Operand)) : OpF :=
  match zeroT P ty, P.underlying ty with
  | some (.agg z), some (.struct fields) => match placesT P fields with
    | some places =>
      let pl := parts.map fun p => places[p.1]?
      let xs := parts.map fun p => evC G p.2
      fun t s => match zipParts pl xs t with
      | some ps => aggO (fillA z ps) s
      | none => .fail
    | none => failC
  | some (.agg z), some (.array _ e) => match sizeT P e with
    | some n =>
      let pl := parts.map fun p => some (p.1 * n, n)
      let xs := parts.map fun p => evC G p.2
      fun t s => match zipParts pl xs t with
      | some ps => aggO (fillA z ps) s
      | none => .fail
    | none => failC
  | _, _ => failC
def buildSliceC (ty : TypeId) (len : Nat) (parts : List (Nat × Operand)) : OpF :=
  match sliceElemT P ty with
  | some e => match sizeT P e, zeroT P e with
    | some n, some z =>
      bif n.beq z.cells.length && Nat.ble (len * n) 16777216 && Nat.blt 0 n then
      let pl := parts.map fun p => some (p.1 * n, n)
      let xs := parts.map fun p => evC G p.2
      let zs := replic len z.cells
      fun t s => match zipParts pl xs t with
      | some ps => match fillA zs ps with
        | some cs => bif cs.all AV.single then .val (.sl s.next 0 len n true) (pushRow s e cs) else .fail
        | none => .fail
      | none => .fail
      else failC
    | _, _ => failC
  | none => failC
def nilCheckC (x : T → AV) : OpF := fun t s => match x t with
  | .ptr r off => .val (.ptr r off) s
  | .ptrL c n => .val (.ptrL c n) s
  | .hptr n => .val (.hptr n) s
  | .fn (.func f) a b => .val (.fn (.func f) a b) s
  | _ => .fail
def fieldAddrC (ty : TypeId) (f : Nat) (x : T → AV) : OpF :=
  match P.underlying ty with
  | some (.struct fields) => match fields[f]? with
    | some fd => match sizeT P fd.type with
      | some (_ + 1) => fun t s => valO (ptrAdd (x t) fd.offset) s
      | _ => failC
    | none => failC
  | _ => failC
def fieldC (ty : TypeId) (f : Nat) (x : T → AV) : OpF :=
  match P.underlying ty with
  | some (.struct fields) => match fields[f]? with
    | some fd => match shapeT P fd.type with
      | some (some n) => fun t s => match x t with | .agg cs => aggO (cutN n fd.offset cs) s | _ => .fail
      | some none => fun t s => match x t with | .agg cs => valO (cs[fd.offset]?) s | _ => .fail
      | none => failC
    | none => failC
  | _ => failC
def nonNil : List AV → Bool
  | [] => false
  | _ :: _ => true
def indexAddrC (ty : TypeId) (x i : T → AV) : OpF :=
  match P.underlying ty with
  | some (.slice e) => match sizeT P e with
    | some n => fun t s => match natOf (i t), x t with
      | some i, .sl r off len es _ => bif Nat.blt i len && n.beq es then .val (.ptr r (off + i * n)) s else .fail
      | some i, .lst cs len _ _ => bif Nat.blt i len && nonNil cs then .val (.ptrL cs (i * n)) s else .fail
      | _, _ => .fail
    | none => failC
  | some (.array len e) => match sizeT P e with
    | some n => fun t s => match natOf (i t) with
      | some i => bif Nat.blt i len then valO (ptrAdd (x t) (i * n)) s else .fail
      | _ => .fail
    | none => failC
  | _ => failC
def indexC (ty : TypeId) (x i : T → AV) : OpF :=
  match P.underlying ty with
  | some .string => fun t s => match natOf (i t), x t with
    | some i, .str l => match l[i]? with | some b => .val (.int .u8 b) s | none => .fail
    | _, _ => .fail
  | some (.array len e) => match shapeT P e, sizeT P e with
    | some (some n), _ => fun t s => match natOf (i t), x t with
      | some i, .agg cs => bif Nat.blt i len then aggO (cutN n (i * n) cs) s else .fail
      | _, _ => .fail
    | some none, some n => fun t s => match natOf (i t), x t with
      | some i, .agg cs => bif Nat.blt i len then valO (cs[i * n]?) s else .fail
      | _, _ => .fail
    | _, _ => failC
  | _ => failC
def optE (x : Option (T → AV)) (t : T) : Option AV := match x with | some f => some (f t) | none => none
def sliceC (ty : TypeId) (x : T → AV) (lo hi mx : Option (T → AV)) : OpF :=
  match P.underlying ty with
  | some (.slice e) => match sizeT P e with
    | some n => fun t s => match x t with
      | .str _ => .fail
      | a => valO (sliceA n a (optE lo t) (optE hi t) (optE mx t)) s
    | none => failC
  | some .string => fun t s => match x t with
    | .str b => valO (sliceA 1 (.str b) (optE lo t) (optE hi t) (optE mx t)) s
    | _ => .fail
  | some (.array len e) => match sizeT P e with
    | some n => fun t s => match x t with
      | .ptr r off => match s.get r with
        | some (.row o) => bif Nat.ble (off + len * n) o.vals.length then valO (sliceA n (.sl r off len n true) (optE lo t) (optE hi t) (optE mx t)) s else .fail
        | _ => .fail
      | _ => .fail
    | none => failC
  | _ => failC
def extractC (i : Nat) (x : T → AV) : OpF := fun t s => match x t with | .tup vs => valO (vs[i]?) s | _ => .fail
def makeSliceC (ty : TypeId) (l c : T → AV) : OpF :=
  match sliceElemT P ty with
  | some e => match zeroT P e, sizeT P e, bytesT P e with
    | some z, some n, some b => bif n.beq z.cells.length && Nat.ble b 65536 then
      fun t s => match natOf (l t), natOf (c t) with
      | some l, some c => bif Nat.ble l c && Nat.ble c 1073741824 then .val (.sl s.next 0 l n (l.beq c)) (pushRow s e (replic l z.cells)) else .fail
      | _, _ => .fail
      else failC
    | _, _, _ => failC
  | none => failC
def mapEs (m : AV) (s : St) : Option (List (AV × AV)) :=
  match m with
  | .mp none => some []
  | .mp (some r) => match s.get r with | some (.mapo es) => some es | _ => none
  | _ => none
def keyT (t : TypeId) : Option KK :=
  match P.underlying t with
  | some .string => some .str
  | some (.int k) => some (.int k)
  | _ => none
def lookupC (ty : TypeId) (m k : T → AV) (ok : Bool) : OpF :=
  match P.underlying ty with
  | some (.map kt e) => match zeroT P e, keyT P kt with
    | some z, some d => fun t s => bif isKey d (k t) then match mapEs (m t) s with
      | some es => match findA d (k t) es with
        | some (some x) => .val (bif ok then .tup [x, .bool true] else x) s
        | some none => .val (bif ok then .tup [z, .bool false] else z) s
        | none => .fail
      | none => .fail
      else .fail
    | _, _ => failC
  | _ => failC
def mapUpdateC (ty : TypeId) (m k x : T → AV) : OpF :=
  match P.underlying ty with
  | some (.map kt _) => match keyT P kt with
    | some d => fun t s => bif isKey d (k t) then match m t with
      | .mp (some r) => match s.get r with
        | some (.mapo es) => match putA d (k t) (x t) es with | some es => .skip (s.set r (.mapo es)) | none => .fail
        | _ => .fail
      | _ => .fail
      else .fail
    | none => failC
  | _ => failC
def typeAssertC (x : T → AV) (asserted : TypeId) (ok : Bool) : OpF :=
  match P.underlying asserted with
  | some (.interface _) => failC
  | some _ => match zeroT P asserted with
    | some z => fun t s => match x t with
      | .nilifc => bif ok then .val (.tup [z, .bool false]) s else .fail
      | .ifc ty y => bif ty.beq asserted then .val (bif ok then .tup [y, .bool true] else y) s
        else bif ok then .val (.tup [z, .bool false]) s else .fail
      | _ => .fail
    | none => failC
  | none => failC
def seqT (t : TypeId) : Bool :=
  match P.underlying t with
  | some (.slice _) | some .string => true
  | _ => false
def appendC (ty tx : TypeId) (a x : T → AV) : OpF :=
  bif seqT P tx then
  match sliceElemT P ty with
  | some e => match sizeT P e, bytesT P e, zeroT P e with
    | some n, some b, some z => bif Nat.ble b 65536 && n.beq z.cells.length then
        fun t s => match lenA (x t), lenA (a t) with
        | some k, some j => bif Nat.ble (j + k) 1073741824 then
            match elemsN n k (x t) s with
            | some new => bif new.all AV.single then appendA e n (a t) new k s else .fail
            | none => .fail
          else .fail
        | _, _ => .fail
      else failC
    | _, _, _ => failC
  | none => failC
  else failC
def lenC (ty : TypeId) (x : T → AV) : OpF :=
  match P.underlying ty with
  | some (.slice _) => fun t s => match x t with
    | .lst _ n _ _ => .val (.int .i64 n) s
    | .sl _ _ n _ _ => .val (.int .i64 n) s
    | _ => .fail
  | some .string => fun t s => match x t with | .str l => .val (.int .i64 l.length) s | _ => .fail
  | some (.map _ _) => fun t s => match mapEs (x t) s with | some es => .val (.int .i64 es.length) s | none => .fail
  | some (.array n _) => fun _ s => .val (.int .i64 n) s
  | _ => failC
def capC (ty : TypeId) (x : T → AV) : OpF :=
  match P.underlying ty with
  | some (.slice _) => fun t s => match x t with
    | .sl _ _ n _ true => .val (.int .i64 n) s
    | .lst _ n true _ => .val (.int .i64 n) s
    | _ => .fail
  | _ => failC
def copyC (ty : TypeId) (d x : T → AV) : OpF :=
  match sliceElemT P ty with
  | some e => match sizeT P e with
    | some n => fun t s => match d t, lenA (x t) with
      | .sl r off dl es _, some k => bif n.beq es then
          bif (Nat.min k dl).beq 0 then .val (.int .i64 0) s else
          match elemsN n (Nat.min k dl) (x t) s with
          | some new => bif new.all AV.single then match storeCellsA s r off new with | some s => .val (.int .i64 (Nat.min k dl : Nat)) s | none => .fail else .fail
          | none => .fail
        else .fail
      | _, _ => .fail
    | none => failC
  | none => failC
def backNx (r : Res) : Nx := match r with | .ret v s => .val v s | .panic v s => .panic v s | .fail => .fail
def callC (callF : CF) (f : Operand) (args : List Operand) : OpF :=
  match f with
  | .func g => let h := callF g; fun t s => backNx (h (evL G args t) s)
  | _ => let e := evC G f; fun t s => match e t with
    | .fn (.func g) first captured => backNx (callF g (first ++ evL G args t ++ captured) s)
    | _ => .fail
def deferC (f : Operand) (args : List Operand) : OpF :=
  let e := evC G f; fun t s => match e t with
    | .fn (.func g) first captured => .dfr g (first ++ evL G args t ++ captured) s
    | _ => .fail
def bytesOf : List AV → Option (List Nat)
  | [] => some []
  | .int .u8 (.ofNat n) :: l => bif Nat.blt n 256 then match bytesOf l with | some q => some (n :: q) | none => none else none
  | _ => none
def convertC (o : Oper) (src dst : TypeId) (x : T → AV) : OpF :=
  match P.underlying src, P.underlying dst with
  | some .string, some (.slice e) => match P.underlying e, sizeT P e with
    | some (.int .u8), some 1 => fun t s => match x t with
      | .str l => .val (.lst (bytesA l) l.length false false) s
      | _ => .fail
    | _, _ => failC
  | some (.slice e), some .string => match P.underlying e with
    | some (.int .u8) => fun t s => match lenA (x t) with
      | some n => match x t with
        | .str _ => .fail
        | a => match elemsN 1 n a s with
          | some cs => match bytesOf cs with | some l => .val (.str l) s | none => .fail
          | none => .fail
      | none => .fail
    | _ => failC
  | some (.int _), some (.int k) => fun t s => match x t with | .int _ n => .val (.int k (k.wrap n)) s | _ => .fail
  | _, _ => plainC P G o
def retire (s : St) (o : Row) : Option St :=
  match s.get o.root with
  | some (.row q) => some (s.set o.root (.row { q with solo := false, fep := q.fep + 1 }))
  | _ => none
def unsafeStringC (pt : TypeId) (x n : T → AV) : OpF :=
  match P.underlying pt with
  | some (.pointer e) => match sizeT P e with
    | some 1 => fun t s => match n t, x t with
      | .int .i64 (.ofNat 0), .nilp => .val (.str []) s
      | .int .i64 (.ofNat 0), .ptr _ _ => .val (.str []) s
      | .int .i64 (.ofNat (k + 1)), .ptr r off => match rowAt s r with
        | some o => bif o.ty.beq e && Nat.ble (k + 1) 9223372036854775807 then
            match cutN (k + 1) off o.vals with
            | some cs => match bytesOf cs with
              | some l => match retire s o with | some s' => .val (.str l) s' | none => .fail
              | none => .fail
            | none => .fail
          else .fail
        | none => .fail
      | _, _ => .fail
    | _ => failC
  | _ => failC
def toUnsafeC (u : TypeId) (x : T → AV) : OpF :=
  match sizeT P u with
  | some (_ + 1) => fun t s => match x t with
    | .nilp => .val .nilp s
    | .ptr r off => match rowAt s r with
      | some o => bif Nat.blt off o.vals.length then .val (.ptr r off) s else .fail
      | none => .fail
    | _ => .fail
  | _ => failC
def fromUnsafeC (u : TypeId) (x : T → AV) : OpF :=
  match sizeT P u with
  | some (n + 1) => fun t s => match x t with
    | .nilp => .val .nilp s
    | .ptr r 0 => match rowAt s r with
      | some o => bif o.root.beq r && (o.pos.beq 0 && (o.ty.beq u && Nat.ble (n + 1) o.vals.length)) then .val (.ptr r 0) s else .fail
      | none => .fail
    | _ => .fail
  | _ => failC
def convC (o : Oper) (src dst : TypeId) (x : T → AV) : OpF :=
  match P.underlying src, P.underlying dst with
  | some (.pointer u), some .unsafePointer => toUnsafeC P u x
  | some .unsafePointer, some (.pointer u) => fromUnsafeC P u x
  | _, _ => convertC P G o src dst x
def sliceDataC (x : T → AV) : OpF := fun t s => match x t with
  | .lst [] 0 true true => .val .nilp s
  | .sl r off (_ + 1) _ _ => .val (.ptr r off) s
  | .lst (c :: cs) (_ + 1) _ _ => .val (.ptrL (c :: cs) 0) s
  | _ => .fail
def builtinC (o : Oper) (b : Builtin) (args : List Operand) (ts : List TypeId) : OpF :=
  match b, args, ts with
  | .append, [a, x], [ty, tx] => appendC P ty tx (evC G a) (evC G x)
  | .len, [x], [ty] => lenC P ty (evC G x)
  | .cap, [x], [ty] => capC P ty (evC G x)
  | .copy, [d, x], [ty, _] => copyC P ty (evC G d) (evC G x)
  | .unsafeSliceData, [x], [_] => sliceDataC (evC G x)
  | .unsafeString, [x, n], [pt, _] => unsafeStringC P pt (evC G x) (evC G n)
  | .append, _, _ | .len, _, _ | .cap, _, _ | .copy, _, _ | .recover, _, _ => failC
  | _, _, _ => plainC P G o
def makeInterfaceC (ty : TypeId) (x : T → AV) : OpF :=
  match P.underlying ty with
  | some (.interface _) => failC
  | some _ => fun t s => .val (.ifc ty (x t)) s
  | none => failC
def panicC (x : T → AV) : OpF := fun t s => match x t with
  | .ifc ty v => .panic (.ifc ty v) s
  | _ => .fail
def opC (callF : CF) (o : Oper) : OpF :=
  match o.op with
  | .move x => let e := evC G x; fun t s => .val (e t) s
  | .assign x => let e := evC G x; fun t s => .val (e t) s
  | .pick c a b => pickC (evC G c) (evC G a) (evC G b)
  | .alloc e => allocC e (zeroT P e)
  | .box e x => boxC e (evC G x)
  | .build ty parts => buildC P G ty parts.toList
  | .buildSlice ty len parts => buildSliceC P G ty len parts.toList
  | .load ty a => loadC (shapeT P ty) (evC G a)
  | .store ty a x => storeC (sizeT P ty) (evC G a) (evC G x)
  | .nilCheck x => nilCheckC (evC G x)
  | .fieldAddr ty x f => fieldAddrC P ty f (evC G x)
  | .field ty x f => fieldC P ty f (evC G x)
  | .indexAddr ty x i => indexAddrC P ty (evC G x) (evC G i)
  | .index ty x i => indexC P ty (evC G x) (evC G i)
  | .slice ty x lo hi mx => sliceC P ty (evC G x) (lo.map (evC G)) (hi.map (evC G)) (mx.map (evC G))
  | .extract x i => extractC i (evC G x)
  | .makeFunc f a b => fun t s => .val (.fn f (evL G a.toList t) (evL G b.toList t)) s
  | .makeInterface ty x => makeInterfaceC P ty (evC G x)
  | .makeSlice ty l c => makeSliceC P ty (evC G l) (evC G c)
  | .makeMap _ none => fun _ s => .val (.mp (some s.next)) (s.push (.mapo []))
  | .lookup ty m k ok => lookupC P ty (evC G m) (evC G k) ok
  | .mapUpdate ty m k x => mapUpdateC P ty (evC G m) (evC G k) (evC G x)
  | .typeAssert x _ asserted ok => typeAssertC P (evC G x) asserted ok
  | .panic x => panicC (evC G x)
  | .binOp op ty x y _ => binC P G o op ty (evC G x) (evC G y)
  | .unOp _ _ _ => plainC P G o
  | .convert src dst x => convC P G o src dst (evC G x)
  | .call { callee := .value f, args := args, .. } => callC G callF f args.toList
  | .call { callee := .builtin b, args := args, argTypes := ts } => builtinC P G o b args.toList ts.toList
  | .defer { callee := .value f, args := args, .. } => deferC G f args.toList
  | _ => failC
end
end Go.Am
end
section
namespace Go.Am
/-! ## Trees -/
theorem pathF_inj : ∀ (f : Nat) (n : Nat), n ≤ f → ∀ (g m : Nat), m ≤ g → pathF f n = pathF g m → n = m
  | 0, n, hn, g, m, hm, h => by
    have hn0 : n = 0 := by omega
    subst hn0
    cases g with
    | zero => omega
    | succ g =>
      by_cases e : m = 0
      · exact e.symm
      · simp only [pathF] at h
        have : m.beq 0 = false := by cases m with | zero => exact absurd rfl e | succ m => rfl
        simp [this] at h
  | f + 1, n, hn, g, m, hm, h => by
    cases g with
    | zero =>
      have hm0 : m = 0 := by omega
      subst hm0
      by_cases e : n = 0
      · exact e
      · have : n.beq 0 = false := by cases n with | zero => exact absurd rfl e | succ m => rfl
        simp [pathF, this] at h
    | succ g =>
      by_cases en : n = 0
      · by_cases em : m = 0
        · omega
        · have : m.beq 0 = false := by cases m with | zero => exact absurd rfl em | succ m => rfl
          subst en
          simp [pathF, this] at h
      · have hnb : n.beq 0 = false := by cases n with | zero => exact absurd rfl en | succ m => rfl
        by_cases em : m = 0
        · subst em
          simp [pathF, hnb] at h
        · have hmb : m.beq 0 = false := by cases m with | zero => exact absurd rfl em | succ m => rfl
          simp only [pathF, hnb, hmb, cond_false, List.cons.injEq] at h
          obtain ⟨h1, h2⟩ := h
          have h3 := pathF_inj f ((n - 1) / 2) (by omega) g ((m - 1) / 2) (by omega) h2
          have h5 : (n - 1) % 2 = (m - 1) % 2 := by
            rcases Nat.mod_two_eq_zero_or_one (n - 1) with a | a <;> rcases Nat.mod_two_eq_zero_or_one (m - 1) with b | b <;> rw [a, b] at h1 <;> first | omega | (exact absurd h1 (by decide))
          omega
theorem pathOf_inj {n m : Nat} (h : pathOf n = pathOf m) : n = m := pathF_inj n n (Nat.le_refl _) m m (Nat.le_refl _) h
section
variable {α : Type}
theorem Tr.getP_nil (p : List Bool) : (Tr.nil : Tr α).getP p = none := by cases p <;> rfl
theorem Tr.getP_setP_same (x : α) : ∀ (p : List Bool) (t : Tr α), (t.setP x p).getP p = some x
  | [], .nil => rfl
  | [], .node _ _ _ => rfl
  | true :: p, .nil => by simp [Tr.setP, Tr.getP, Tr.getP_setP_same x p]
  | false :: p, .nil => by simp [Tr.setP, Tr.getP, Tr.getP_setP_same x p]
  | true :: p, .node _ _ _ => by simp [Tr.setP, Tr.getP, Tr.getP_setP_same x p]
  | false :: p, .node _ _ _ => by simp [Tr.setP, Tr.getP, Tr.getP_setP_same x p]
theorem Tr.getP_setP_ne (x : α) : ∀ (p q : List Bool) (t : Tr α), p ≠ q → (t.setP x p).getP q = t.getP q
  | [], [], _, h => absurd rfl h
  | [], true :: q, .nil, _ => by simp [Tr.setP, Tr.getP, Tr.getP_nil]
  | [], false :: q, .nil, _ => by simp [Tr.setP, Tr.getP, Tr.getP_nil]
  | [], _ :: q, .node _ _ _, _ => rfl
  | true :: p, [], .nil, _ => rfl
  | false :: p, [], .nil, _ => rfl
  | true :: p, [], .node _ _ _, _ => rfl
  | false :: p, [], .node _ _ _, _ => rfl
  | true :: p, true :: q, .nil, h => by simp [Tr.setP, Tr.getP, Tr.getP_setP_ne x p q .nil (fun e => h (by rw [e])), Tr.getP_nil]
  | false :: p, false :: q, .nil, h => by simp [Tr.setP, Tr.getP, Tr.getP_setP_ne x p q .nil (fun e => h (by rw [e])), Tr.getP_nil]
  | true :: p, false :: q, .nil, _ => by simp [Tr.setP, Tr.getP, Tr.getP_nil]
  | false :: p, true :: q, .nil, _ => by simp [Tr.setP, Tr.getP, Tr.getP_nil]
  | true :: p, true :: q, .node _ _ r, h => by simp [Tr.setP, Tr.getP, Tr.getP_setP_ne x p q r (fun e => h (by rw [e]))]
  | false :: p, false :: q, .node _ l _, h => by simp [Tr.setP, Tr.getP, Tr.getP_setP_ne x p q l (fun e => h (by rw [e]))]
  | true :: p, false :: q, .node _ _ _, _ => by simp [Tr.setP, Tr.getP]
  | false :: p, true :: q, .node _ _ _, _ => by simp [Tr.setP, Tr.getP]
theorem Tr.get_set (t : Tr α) (n m : Nat) (x : α) : (t.set n x).get m = if n = m then some x else t.get m := by
  unfold Tr.get Tr.set
  by_cases h : n = m
  · subst h; simp [Tr.getP_setP_same]
  · rw [if_neg h, Tr.getP_setP_ne x _ _ _ (fun e => h (pathOf_inj e))]
end
theorem St.get_set (s : St) (r q : Nat) (o : AObj) : (s.set r o).get q = if r = q then some o else s.get q := Tr.get_set _ _ _ _
theorem St.get_set_same (s : St) (r : Nat) (o : AObj) : (s.set r o).get r = some o := by rw [St.get_set, if_pos rfl]
theorem St.get_set_ne (s : St) {r q : Nat} (o : AObj) (h : r ≠ q) : (s.set r o).get q = s.get q := by rw [St.get_set, if_neg h]
@[simp] theorem St.next_set (s : St) (r : Nat) (o : AObj) : (s.set r o).next = s.next := rfl
@[simp] theorem St.next_push (s : St) (o : AObj) : (s.push o).next = s.next + 1 := rfl
theorem St.get_push (s : St) (q : Nat) (o : AObj) : (s.push o).get q = if s.next = q then some o else s.get q := Tr.get_set _ _ _ _
theorem St.get_empty (r : Nat) : St.empty.get r = none := by simp [St.get, St.empty, Tr.get, Tr.getP_nil]
/-! ## Values -/
structure Env where
  loc : Nat → Option (Nat × Nat)
  z : Nat → Nat → Option Value
  bsz : Nat → Nat
  /-- where what is known by its meaning alone lies, which blocks are its own, and what the meaning says of them -/
  hb : Nat → Option Nat
  own : Nat → Nat → Prop
  H : Hid → Nat → (Nat → Prop) → World → Prop
mutual
inductive VR (E : Env) : AV → Value → Prop
  | int (k : IntKind) (n : Int) : VR E (.int k n) (.int k n)
  | bool (b : Bool) : VR E (.bool b) (.bool b)
  | str (s : ByteArray) : VR E (.str (s.data.toList.map (·.toNat))) (.string s)
  | nilp : VR E .nilp (.pointer none)
  | ptr {r b base : Nat} (off : Nat) (h : E.loc r = some (b, base)) : VR E (.ptr r off) (.pointer (some ⟨b, base + off, none⟩))
  | ptrL {cs : List AV} {vs : List Value} {b base : Nat} (off : Nat) (h : VRL E cs vs) (hz : ∀ i v, vs[i]? = some v → E.z b (base + i) = some v) :
      VR E (.ptrL cs off) (.pointer (some ⟨b, base + off, none⟩))
  | sl {r b base off len es cap : Nat} {tight : Bool} {a : Option Addr} (h : E.loc r = some (b, base)) (hl : len ≤ cap) (ht : tight = true → cap = len)
      (ha : 0 < cap → a = some ⟨b, base + off, none⟩ ∧ base + off + cap * es ≤ E.bsz b) (hs : a ≠ none) : VR E (.sl r off len es tight) (.slice a len cap)
  | lst {cs : List AV} {vs : List Value} {len cap : Nat} {tight nl : Bool} {a : Option Addr} (h : VRL E cs vs) (hl : len ≤ cap) (ht : tight = true → cap = len)
      (hn : a.isNone = nl) (hc : a = none → cap = 0) (hz : vs ≠ [] → ∃ b base, a = some ⟨b, base, none⟩ ∧ ∀ i v, vs[i]? = some v → E.z b (base + i) = some v) :
      VR E (.lst cs len tight nl) (.slice a len cap)
  | mpn : VR E (.mp none) (.map none)
  | mp {r b : Nat} (h : E.loc r = some (b, 0)) : VR E (.mp (some r)) (.map (some b))
  | hp {n b : Nat} (h : E.hb n = some b) : VR E (.hptr n) (.pointer (some ⟨b, 0, none⟩))
  | fn {f : Fn} {a b : List AV} {x y : List Value} (ha : VRL E a x) (hb : VRL E b y) : VR E (.fn f a b) (.func f ⟨x⟩ ⟨y⟩)
  | nilfn : VR E .nilfn .nilFunc
  | ifc {t : TypeId} {a : AV} {v : Value} (h : VR E a v) : VR E (.ifc t a) (.iface t v)
  | nilifc : VR E .nilifc .nilIface
  | agg {a : List AV} {x : List Value} (h : VRL E a x) : VR E (.agg a) (.agg ⟨x⟩)
  | tup {a : List AV} {x : List Value} (h : VRL E a x) : VR E (.tup a) (.tuple ⟨x⟩)
  | lit (v : Value) (h : v.oneCell' = true) : VR E (.lit v) v
  | undef (v : Value) : VR E .undef v
inductive VRL (E : Env) : List AV → List Value → Prop
  | nil : VRL E [] []
  | cons {a : AV} {v : Value} {l : List AV} {r : List Value} (h : VR E a v) (hl : VRL E l r) : VRL E (a :: l) (v :: r)
end
structure Env.le (E E' : Env) : Prop where
  loc : ∀ r p, E.loc r = some p → E'.loc r = some p
  z : ∀ b o v, E.z b o = some v → E'.z b o = some v
  bsz : ∀ r b base, E.loc r = some (b, base) → E'.bsz b = E.bsz b
  hb : ∀ n b, E.hb n = some b → E'.hb n = some b
  H : E'.H = E.H
theorem Env.le.refl (E : Env) : E.le E := ⟨fun _ _ h => h, fun _ _ _ h => h, fun _ _ _ _ => rfl, fun _ _ h => h, rfl⟩
theorem Env.le.trans {A B C : Env} (h : A.le B) (k : B.le C) : A.le C :=
  ⟨fun r p e => k.loc r p (h.loc r p e), fun b o v e => k.z b o v (h.z b o v e), fun r b base e => (k.bsz r b base (h.loc r _ e)).trans (h.bsz r b base e), fun n b e => k.hb n b (h.hb n b e), k.H.trans h.H⟩
mutual
theorem VR.mono {E E' : Env} (he : E.le E') : ∀ {a : AV} {v : Value}, VR E a v → VR E' a v
  | _, _, .int k n => .int k n
  | _, _, .bool b => .bool b
  | _, _, .str s => .str s
  | _, _, .nilp => .nilp
  | _, _, .ptr off h => .ptr off (he.loc _ _ h)
  | _, _, .ptrL off h hz => .ptrL off (VRL.mono he h) (fun i v e => he.z _ _ _ (hz i v e))
  | _, _, .sl h hl ht ha hs => .sl (he.loc _ _ h) hl ht (fun hc => ⟨(ha hc).1, by rw [he.bsz _ _ _ h]; exact (ha hc).2⟩) hs
  | _, _, .lst h hl ht hn hc hz => .lst (VRL.mono he h) hl ht hn hc (fun hv => let ⟨b, base, ea, hb⟩ := hz hv; ⟨b, base, ea, fun i v e => he.z _ _ _ (hb i v e)⟩)
  | _, _, .mpn => .mpn
  | _, _, .mp h => .mp (he.loc _ _ h)
  | _, _, .hp h => .hp (he.hb _ _ h)
  | _, _, .fn ha hb => .fn (VRL.mono he ha) (VRL.mono he hb)
  | _, _, .nilfn => .nilfn
  | _, _, .ifc h => .ifc (VR.mono he h)
  | _, _, .nilifc => .nilifc
  | _, _, .agg h => .agg (VRL.mono he h)
  | _, _, .tup h => .tup (VRL.mono he h)
  | _, _, .lit v h => .lit v h
  | _, _, .undef v => .undef v
theorem VRL.mono {E E' : Env} (he : E.le E') : ∀ {a : List AV} {v : List Value}, VRL E a v → VRL E' a v
  | _, _, .nil => .nil
  | _, _, .cons h hl => .cons (VR.mono he h) (VRL.mono he hl)
end
section
variable {E : Env}
theorem VRL.length {l : List AV} {r : List Value} (h : VRL E l r) : l.length = r.length := by
  induction l generalizing r with
  | nil => cases h; rfl
  | cons a l ih => cases h with | cons h hl => simp [ih hl]
theorem VRL.get {l : List AV} {r : List Value} (h : VRL E l r) (i : Nat) : (l[i]? = none ∧ r[i]? = none) ∨ ∃ a v, l[i]? = some a ∧ r[i]? = some v ∧ VR E a v := by
  induction l generalizing r i with
  | nil => cases h; simp
  | cons a l ih =>
    cases h with
    | cons h hl =>
      cases i with
      | zero => exact .inr ⟨a, _, rfl, rfl, h⟩
      | succ i => simpa using ih hl i
theorem VRL.at_ {l : List AV} {r : List Value} (h : VRL E l r) {i : Nat} {a : AV} (hi : l[i]? = some a) : ∃ v, r[i]? = some v ∧ VR E a v := by
  rcases h.get i with ⟨h1, _⟩ | ⟨a', v, h1, h2, h3⟩
  · rw [h1] at hi; cases hi
  · rw [h1] at hi; cases hi; exact ⟨v, h2, h3⟩
theorem VRL.append {l l' : List AV} {r r' : List Value} (h : VRL E l r) (h' : VRL E l' r') : VRL E (l ++ l') (r ++ r') := by
  induction l generalizing r with
  | nil => cases h; exact h'
  | cons a l ih => cases h with | cons h hl => exact .cons h (ih hl)
theorem VRL.drop {l : List AV} {r : List Value} (h : VRL E l r) (n : Nat) : VRL E (l.drop n) (r.drop n) := by
  induction n generalizing l r with
  | zero => exact h
  | succ n ih => cases h with | nil => simpa using VRL.nil | cons h hl => simpa using ih hl
theorem VRL.take {l : List AV} {r : List Value} (h : VRL E l r) (n : Nat) : VRL E (l.take n) (r.take n) := by
  induction n generalizing l r with
  | zero => simpa using VRL.nil
  | succ n ih => cases h with | nil => simpa using VRL.nil | cons h hl => simpa using VRL.cons h (ih hl)
theorem VRL.of_get {l : List AV} {r : List Value} (hl : l.length = r.length) (h : ∀ (i : Nat) (a : AV) (v : Value), l[i]? = some a → r[i]? = some v → VR E a v) : VRL E l r := by
  induction l generalizing r with
  | nil => cases r with | nil => exact .nil | cons => simp at hl
  | cons a l ih =>
    cases r with
    | nil => simp at hl
    | cons v r => exact .cons (h 0 a v rfl rfl) (ih (by simpa using hl) fun i a v h1 h2 => h (i + 1) a v (by simpa using h1) (by simpa using h2))
theorem takeN_eq : ∀ {n : Nat} {l q : List AV}, takeN n l = some q → q = l.take n ∧ n ≤ l.length
  | 0, l, q, h => by simp [takeN] at h; simp [← h]
  | n + 1, [], q, h => by simp [takeN] at h
  | n + 1, x :: r, q, h => by
    simp only [takeN] at h
    split at h
    · rename_i q' hq
      obtain ⟨h1, h2⟩ := takeN_eq hq
      cases h
      exact ⟨by simp [h1], by simp; omega⟩
    · cases h
theorem cutN_len {n off : Nat} {l q : List AV} (h : cutN n off l = some q) : q.length = n := by
  obtain ⟨h1, h2⟩ := takeN_eq h
  rw [h1, List.length_take, Nat.min_eq_left h2]
theorem cutN_get {n off : Nat} {l q : List AV} (h : cutN n off l = some q) (i : Nat) (hi : i < n) : q[i]? = l[off + i]? := by
  obtain ⟨h1, h2⟩ := takeN_eq h
  simp [h1, hi]
theorem overwrite_len : ∀ {l : List AV} {k : Nat} {new q : List AV}, overwrite l k new = some q → q.length = l.length ∧ k + new.length ≤ l.length
  | l, 0, [], q, h => by cases l <;> (simp [overwrite] at h; simp [← h])
  | [], 0, _ :: _, q, h => by simp [overwrite] at h
  | y :: l', 0, x :: r, q, h => by
    simp only [overwrite] at h
    split at h
    · rename_i q' hq
      have := overwrite_len hq
      cases h; exact ⟨by simp [this.1], by simp only [List.length_cons]; omega⟩
    · cases h
  | [], k + 1, new, q, h => by simp [overwrite] at h
  | y :: l, k + 1, new, q, h => by
    simp only [overwrite] at h
    split at h
    · rename_i q' hq
      have := overwrite_len hq
      cases h; exact ⟨by simp [this.1], by simp only [List.length_cons]; omega⟩
    · cases h
theorem overwrite_get : ∀ {l : List AV} {k : Nat} {new q : List AV}, overwrite l k new = some q → ∀ i, q[i]? = if k ≤ i ∧ i < k + new.length then new[i - k]? else l[i]?
  | l, 0, [], q, h, i => by
    have : q = l := by cases l <;> (simp [overwrite] at h; simp [h])
    subst this
    simp
  | [], 0, _ :: _, q, h, i => by simp [overwrite] at h
  | y :: l', 0, x :: r, q, h, i => by
    simp only [overwrite] at h
    split at h
    · rename_i q' hq
      have ih := overwrite_get hq
      cases h
      cases i with
      | zero => simp
      | succ i => simp [ih i]
    · cases h
  | [], k + 1, new, q, h, i => by simp [overwrite] at h
  | y :: l, k + 1, new, q, h, i => by
    simp only [overwrite] at h
    split at h
    · rename_i q' hq
      have ih := overwrite_get hq
      cases h
      cases i with
      | zero => simp
      | succ i =>
        simp only [List.getElem?_cons_succ, ih i]
        by_cases hc : k ≤ i ∧ i < k + new.length
        · rw [if_pos hc, if_pos (by omega)]; congr 1; omega
        · rw [if_neg hc, if_neg (by omega)]
    · cases h
end
end Go.Am
end
section
namespace Go.Am
structure Wf (s : St) : Prop where
  fresh : ∀ r, s.next ≤ r → s.get r = none
  root : ∀ r o, s.get r = some (.row o) → ∃ q, s.get o.root = some (.row q) ∧ q.root = o.root ∧ o.ep ≤ q.fep ∧ (valid s o = true → o.pos + o.vals.length ≤ q.ext)
  solo : ∀ r o, s.get r = some (.row o) → o.solo = true → o.root = r ∧ ∀ r2 o2, s.get r2 = some (.row o2) → o2.root = r → r2 = r
  rle : ∀ r o, s.get r = some (.row o) → o.root ≤ r
structure Rel (E : Env) (s : St) (w : World) : Prop where
  wf : Wf s
  lt : ∀ r b base, E.loc r = some (b, base) → r < s.next ∧ b < w.heap.size
  obj : ∀ r p, E.loc r = some p → ∃ o, s.get r = some o
  z : ∀ b o v, E.z b o = some v → w.cell? ⟨b, o, none⟩ = some v
  zap : ∀ b o v r base, E.z b o = some v → E.loc r ≠ some (b, base)
  row : ∀ r o b base, s.get r = some (.row o) → E.loc r = some (b, base) → ∃ c ty fz, w.heap[b]? = some (.cells c ty fz) ∧ c.size = E.bsz b ∧ base + o.vals.length ≤ c.size ∧
    (valid s o = true → (fz = (0, 0) ∧ ty = o.ty) ∧ ∃ vs, VRL E o.vals vs ∧ ∀ i v, vs[i]? = some v → c[base + i]? = some v)
  mapo : ∀ r es b base, s.get r = some (.mapo es) → E.loc r = some (b, base) → ∃ ents clock, w.heap[b]? = some (.map ents clock) ∧
    VRL E (es.map (·.1)) (ents.toList.map (·.key)) ∧ VRL E (es.map (·.2)) (ents.toList.map (·.val))
  iter : ∀ r x n b base, s.get r = some (.siter x n) → E.loc r ≠ some (b, base)
  coh : ∀ r1 r2 b base1 base2, E.loc r1 = some (b, base1) → E.loc r2 = some (b, base2) → r1 = r2 ∨
    ∃ o1 o2, s.get r1 = some (.row o1) ∧ s.get r2 = some (.row o2) ∧ o1.root = o2.root ∧ base1 + o2.pos = base2 + o1.pos
  b0 : ∀ r o b base, s.get r = some (.row o) → E.loc r = some (b, base) → o.root = r → o.pos = 0 → base = 0
  hid : ∀ n d b, s.get n = some (.hid d) → E.hb n = some b → ∀ w1 : World, (∀ c, E.own n c → w1.heap[c]? = w.heap[c]?) → E.H d b (E.own n) w1
  own : ∀ n c, E.own n c → c < w.heap.size ∧ (∀ r base, E.loc r ≠ some (c, base)) ∧ (∀ o, E.z c o = none) ∧ ∀ m, E.own m c → m = n
  hlt : ∀ n b, E.hb n = some b → n < s.next ∧ ∃ d, s.get n = some (.hid d)
structure Step (E : Env) (s : St) (w : World) (E' : Env) (s' : St) (w' : World) : Prop where
  le : E.le E'
  old : ∀ r, r < s.next → E'.loc r = E.loc r
  new : ∀ r b base, E'.loc r = some (b, base) → w.heap.size ≤ b ∨ ∃ r0 base0, E.loc r0 = some (b, base0)
  rel : Rel E' s' w'
  un : ∀ r, r < s.next → E.loc r = none → (∀ o, s.get r = some (.row o) → o.solo = true) → (∀ d, s.get r ≠ some (.hid d)) → s'.get r = s.get r
  next : s.next ≤ s'.next
  fr : ∀ b, b < w.heap.size → (∀ r base, E.loc r ≠ some (b, base)) → (∀ n, ¬ E.own n b) → w'.heap[b]? = w.heap[b]?
  os : w'.os = w.os
  tape : w'.tape = w.tape
  output : w'.output = w.output
  size : w.heap.size ≤ w'.heap.size
  owns : ∀ n c, E'.own n c → E.own n c ∨ w.heap.size ≤ c
  hids : ∀ n d, s.get n = some (.hid d) → ∃ d', s'.get n = some (.hid d')
  /-- what stays now: it stayed, or it is new, or it was a row's -/
  zn : ∀ b o v, E'.z b o = some v → E.z b o = some v ∨ w.heap.size ≤ b ∨ ∃ r base, E.loc r = some (b, base)
theorem Step.refl {E : Env} {s : St} {w : World} (h : Rel E s w) : Step E s w E s w :=
  ⟨.refl E, fun _ _ => rfl, fun r _ base e => .inr ⟨r, base, e⟩, h, fun _ _ _ _ _ => rfl, Nat.le_refl _, fun _ _ _ _ => rfl, rfl, rfl, rfl, Nat.le_refl _, fun _ _ e => .inl e, fun _ d e => ⟨d, e⟩, fun _ _ _ e => .inl e⟩
theorem Step.trans {E1 E2 E3 : Env} {s1 s2 s3 : St} {w1 w2 w3 : World} (h : Step E1 s1 w1 E2 s2 w2) (k : Step E2 s2 w2 E3 s3 w3) : Step E1 s1 w1 E3 s3 w3 where
  le := h.le.trans k.le
  old r hr := (k.old r (Nat.lt_of_lt_of_le hr h.next)).trans (h.old r hr)
  new r b base e := by
    rcases k.new r b base e with h1 | ⟨r0, base0, h1⟩
    · exact .inl (Nat.le_trans h.size h1)
    · exact h.new r0 b base0 h1
  rel := k.rel
  un r hr hn hs hd := (k.un r (Nat.lt_of_lt_of_le hr h.next) ((h.old r hr).trans hn) (by rw [h.un r hr hn hs hd]; exact hs) (by rw [h.un r hr hn hs hd]; exact hd)).trans (h.un r hr hn hs hd)
  next := Nat.le_trans h.next k.next
  fr b hb hn ho := by
    refine (k.fr b (Nat.lt_of_lt_of_le hb h.size) ?_ ?_).trans (h.fr b hb hn ho)
    · intro r base e
      rcases h.new r b base e with h1 | ⟨r0, base0, h1⟩
      · omega
      · exact hn r0 base0 h1
    · intro n e
      rcases h.owns n b e with h1 | h1
      · exact ho n h1
      · omega
  os := k.os.trans h.os
  tape := k.tape.trans h.tape
  output := k.output.trans h.output
  size := Nat.le_trans h.size k.size
  owns n c e := by
    rcases k.owns n c e with h1 | h1
    · exact h.owns n c h1
    · exact .inr (Nat.le_trans h.size h1)
  hids n d e := by obtain ⟨d1, e1⟩ := h.hids n d e; exact k.hids n d1 e1
  zn b o v e := by
    rcases k.zn b o v e with h1 | h1 | ⟨r, base, h1⟩
    · exact h.zn b o v h1
    · exact .inr (.inl (Nat.le_trans h.size h1))
    · exact .inr (h.new r b base h1)
theorem cell_of_heap {w w' : World} (h : w'.heap = w.heap) (a : Addr) : w'.cell? a = w.cell? a := by simp [World.cell?, h]
theorem Rel.same {E : Env} {s : St} {w w' : World} (h : Rel E s w) (e' : w'.heap = w.heap) : Rel E s w' where
  wf := h.wf
  lt := by rw [e']; exact h.lt
  obj := h.obj
  z b o v hz := by rw [cell_of_heap e']; exact h.z b o v hz
  zap := h.zap
  row := by rw [e']; exact h.row
  mapo := by rw [e']; exact h.mapo
  iter := h.iter
  coh := h.coh
  b0 := h.b0
  hid n d b e eb w1 hw := h.hid n d b e eb w1 fun c hc => (hw c hc).trans (by rw [e'])
  own := by rw [e']; exact h.own
  hlt := h.hlt
theorem Step.same {E : Env} {s : St} {w w' : World} (h : Rel E s w) (e : w'.heap = w.heap) (h1 : w'.os = w.os) (h2 : w'.tape = w.tape) (h3 : w'.output = w.output) : Step E s w E s w' :=
  ⟨.refl E, fun _ _ => rfl, fun r _ base e => .inr ⟨r, base, e⟩, h.same e, fun _ _ _ _ _ => rfl, Nat.le_refl _, fun _ _ _ _ => by rw [e], h1, h2, h3, by rw [e]; exact Nat.le_refl _, fun _ _ e => .inl e, fun _ d e => ⟨d, e⟩, fun _ _ _ e => .inl e⟩
theorem Step.drew {E : Env} {s : St} {w : World} (h : Rel E s w) : Step E s w E s { w with drawn := w.drawn + 1 } := Step.same h rfl rfl rfl rfl
section
variable {s : St} {o : AObj}
theorem get_push_old {r : Nat} (h : r < s.next) : (s.push o).get r = s.get r := by rw [St.get_push, if_neg (by omega)]
theorem get_push_new : (s.push o).get s.next = some o := by rw [St.get_push, if_pos rfl]
end
theorem Wf.lt {s : St} (h : Wf s) {r : Nat} {o : AObj} (e : s.get r = some o) : r < s.next := by
  rcases Nat.lt_or_ge r s.next with h1 | h1
  · exact h1
  · rw [h.fresh r h1] at e; cases e
theorem valid_congr {s s' : St} {o : Row} (h : s'.get o.root = s.get o.root) : valid s' o = valid s o := by unfold valid; rw [h]
theorem Wf.valid_push {s : St} (h : Wf s) {r : Nat} {o : Row} (e : s.get r = some (.row o)) (x : AObj) : valid (s.push x) o = valid s o := by
  obtain ⟨q, hq, _⟩ := h.root r o e
  exact valid_congr (get_push_old (h.lt hq))
theorem pushRow_rle {s : St} (h : Wf s) (ty : TypeId) (vals : List AV) : ∀ r o, (pushRow s ty vals).get r = some (.row o) → o.root ≤ r := by
  intro r o e
  unfold pushRow at e
  rw [St.get_push] at e
  split at e
  · rename_i hr
    simp only [newRow, Option.some.injEq, AObj.row.injEq] at e
    subst e
    exact Nat.le_of_eq hr
  · exact h.rle r o e
theorem Wf.push_row {s : St} (h : Wf s) (ty : TypeId) (vals : List AV) : Wf (pushRow s ty vals) where
  fresh r hr := by
    have hr' : s.next + 1 ≤ r := hr
    unfold pushRow; rw [St.get_push, if_neg (by omega)]; exact h.fresh r (by omega)
  root r o e := by
    by_cases hr : r = s.next
    · subst hr
      unfold pushRow at e ⊢
      rw [get_push_new] at e
      simp only [newRow, Option.some.injEq, AObj.row.injEq] at e
      subst e
      exact ⟨_, get_push_new, rfl, Nat.le_refl _, fun _ => by simp⟩
    · unfold pushRow at e ⊢
      have hlt : r < s.next := by
        rcases Nat.lt_or_ge r s.next with h1 | h1
        · exact h1
        · rw [St.get_push, if_neg (by omega), h.fresh r h1] at e; cases e
      rw [get_push_old hlt] at e
      obtain ⟨q, hq, h1, h2, h3⟩ := h.root r o e
      exact ⟨q, by rw [get_push_old (h.lt hq)]; exact hq, h1, h2, fun hv => h3 (by rw [h.valid_push e] at hv; exact hv)⟩
  solo r o e hs := by
    unfold pushRow at e ⊢
    by_cases hr : r = s.next
    · subst hr
      rw [get_push_new] at e
      simp only [newRow, Option.some.injEq, AObj.row.injEq] at e
      subst e
      refine ⟨rfl, fun r2 o2 e2 h2 => ?_⟩
      by_cases hr2 : r2 = s.next
      · exact hr2
      · have hlt : r2 < s.next := by
          rcases Nat.lt_or_ge r2 s.next with h1 | h1
          · exact h1
          · rw [St.get_push, if_neg (by omega), h.fresh r2 h1] at e2; cases e2
        rw [get_push_old hlt] at e2
        obtain ⟨q, hq, _⟩ := h.root r2 o2 e2
        have := h.lt hq
        omega
    · have hlt : r < s.next := by
        rcases Nat.lt_or_ge r s.next with h1 | h1
        · exact h1
        · rw [St.get_push, if_neg (by omega), h.fresh r h1] at e; cases e
      rw [get_push_old hlt] at e
      obtain ⟨h1, h2⟩ := h.solo r o e hs
      refine ⟨h1, fun r2 o2 e2 h3 => ?_⟩
      by_cases hr2 : r2 = s.next
      · subst hr2
        rw [get_push_new] at e2
        simp only [newRow, Option.some.injEq, AObj.row.injEq] at e2
        subst e2
        simp at h3; omega
      · have hlt2 : r2 < s.next := by
          rcases Nat.lt_or_ge r2 s.next with h1 | h1
          · exact h1
          · rw [St.get_push, if_neg (by omega), h.fresh r2 h1] at e2; cases e2
        rw [get_push_old hlt2] at e2
        exact h2 r2 o2 e2 h3
  rle := pushRow_rle h ty vals
theorem Wf.push_other {s : St} (h : Wf s) (x : AObj) (hx : ∀ o, x ≠ .row o) : Wf (s.push x) where
  fresh r hr := by
    have hr' : s.next + 1 ≤ r := hr
    rw [St.get_push, if_neg (by omega)]; exact h.fresh r (by omega)
  root r o e := by
    rw [St.get_push] at e
    split at e
    · cases e; exact absurd rfl (hx o)
    · obtain ⟨q, hq, h1, h2, h3⟩ := h.root r o e
      exact ⟨q, by rw [get_push_old (h.lt hq)]; exact hq, h1, h2, fun hv => h3 (by rw [h.valid_push e] at hv; exact hv)⟩
  solo r o e hs := by
    rw [St.get_push] at e
    split at e
    · cases e; exact absurd rfl (hx o)
    · obtain ⟨h1, h2⟩ := h.solo r o e hs
      refine ⟨h1, fun r2 o2 e2 h3 => ?_⟩
      rw [St.get_push] at e2
      split at e2
      · cases e2; exact absurd rfl (hx o2)
      · exact h2 r2 o2 e2 h3
  rle r o e := by
    rw [St.get_push] at e
    split at e
    · cases e; exact absurd rfl (hx o)
    · exact h.rle r o e
theorem Rel.push {E : Env} {s : St} {w : World} (h : Rel E s w) (x : AObj) (hw : Wf (s.push x)) : Rel E (s.push x) w where
  wf := hw
  lt r b base e := ⟨Nat.lt_succ_of_lt (h.lt r b base e).1, (h.lt r b base e).2⟩
  obj r p e := by obtain ⟨o, ho⟩ := h.obj r p e; exact ⟨o, by rw [get_push_old (h.wf.lt ho)]; exact ho⟩
  z := h.z
  zap := h.zap
  row r o b base e el := by
    have hlt := (h.lt r b base el).1
    rw [get_push_old hlt] at e
    rw [h.wf.valid_push e]
    exact h.row r o b base e el
  mapo r es b base e el := by
    rw [get_push_old (h.lt r b base el).1] at e
    exact h.mapo r es b base e el
  iter r x n b base e el := by
    rw [get_push_old (h.lt r b base el).1] at e
    exact h.iter r x n b base e el
  coh r1 r2 b b1 b2 e1 e2 := by
    rw [get_push_old (h.lt r1 b b1 e1).1, get_push_old (h.lt r2 b b2 e2).1]
    exact h.coh r1 r2 b b1 b2 e1 e2
  b0 r o b base e el hq := by
    rw [get_push_old (h.lt r b base el).1] at e
    exact h.b0 r o b base e el hq
  hid n d b e eb := by
    rw [get_push_old (h.hlt n b eb).1] at e
    exact h.hid n d b e eb
  own := h.own
  hlt n b eb := by
    obtain ⟨h1, d, h2⟩ := h.hlt n b eb
    exact ⟨Nat.lt_succ_of_lt h1, d, by rw [get_push_old h1]; exact h2⟩
theorem Step.push {E : Env} {s : St} {w : World} (h : Rel E s w) (x : AObj) (hw : Wf (s.push x)) : Step E s w E (s.push x) w :=
  ⟨.refl E, fun _ _ => rfl, fun r _ base e => .inr ⟨r, base, e⟩, h.push x hw, fun _ hr _ _ _ => get_push_old hr, Nat.le_succ _, fun _ _ _ _ => rfl, rfl, rfl, rfl, Nat.le_refl _, fun _ _ e => .inl e, fun n d e => ⟨d, by rw [get_push_old (h.wf.lt e)]; exact e⟩, fun _ _ _ e => .inl e⟩
def Env.add (E : Env) (r b base size : Nat) : Env :=
  { E with loc := fun q => if q = r then some (b, base) else E.loc q, bsz := fun c => if c = b then size else E.bsz c }
theorem Env.add_le {E : Env} {r b base size : Nat} (hr : E.loc r = none) (hb : ∀ r0 base0, E.loc r0 = some (b, base0) → E.bsz b = size) : E.le (E.add r b base size) where
  loc q p e := by
    simp only [Env.add]
    by_cases hq : q = r
    · subst hq; rw [hr] at e; cases e
    · rw [if_neg hq]; exact e
  z _ _ _ e := e
  bsz q b' base' e := by
    simp only [Env.add]
    by_cases hb' : b' = b
    · subst hb'; rw [if_pos rfl]; exact (hb q base' e).symm
    · rw [if_neg hb']
  hb _ _ e := e
  H := rfl
theorem Env.add_loc {E : Env} {r b base size q : Nat} {p : Nat × Nat} (e : (E.add r b base size).loc q = some p) : (q = r ∧ p = (b, base)) ∨ (q ≠ r ∧ E.loc q = some p) := by
  simp only [Env.add] at e
  by_cases hq : q = r
  · rw [if_pos hq] at e; cases e; exact .inl ⟨hq, rfl⟩
  · rw [if_neg hq] at e; exact .inr ⟨hq, e⟩
theorem Env.add_self (E : Env) (r b base size : Nat) : (E.add r b base size).loc r = some (b, base) := by simp [Env.add]
theorem Env.add_ne {E : Env} {r b base size q : Nat} (h : q ≠ r) : (E.add r b base size).loc q = E.loc q := by simp [Env.add, h]
theorem Rel.map_new {E : Env} {s : St} {w : World} (h : Rel E s w) {r : Nat} {o : Row} (hr : s.get r = some (.row o)) (hn : E.loc r = none) {vs : List Value} (hv : VRL E o.vals vs)
    (c : Array Value) (hc : ∀ (i : Nat) (v : Value), vs[i]? = some v → c[i]? = some v) (hl : o.vals.length ≤ c.size) :
    E.le (E.add r w.heap.size 0 c.size) ∧ Rel (E.add r w.heap.size 0 c.size) s (w.alloc (.cells c o.ty)) := by
  have hfresh : ∀ r0 base0, E.loc r0 ≠ some (w.heap.size, base0) := fun r0 base0 e => by have := (h.lt r0 _ _ e).2; omega
  have hle : E.le (E.add r w.heap.size 0 c.size) := Env.add_le hn fun r0 base0 e => absurd e (hfresh r0 base0)
  have hold : ∀ b, b < w.heap.size → (w.alloc (.cells c o.ty)).heap[b]? = w.heap[b]? := fun b hb => heap_alloc_old w _ b hb
  refine ⟨hle, h.wf, ?_, ?_, ?_, ?_, ?_, ?_, ?_, ?_, ?_, fun n d b e eb w1 hw => h.hid n d b e eb w1 fun c hc => (hw c hc).trans (hold c (h.own n c hc).1), fun n c hc => ?_, h.hlt⟩
  rotate_right
  · obtain ⟨o1, o2, o3⟩ := h.own n c hc
    refine ⟨by simp; omega, fun q base e => ?_, o3⟩
    rcases Env.add_loc e with ⟨_, h1⟩ | ⟨_, h1⟩
    · cases h1; omega
    · exact o2 q base h1
  · intro q b base e
    rcases Env.add_loc e with ⟨rfl, h1⟩ | ⟨_, h1⟩
    · cases h1
      exact ⟨h.wf.lt hr, by simp⟩
    · have := h.lt q b base h1
      exact ⟨this.1, by simp; omega⟩
  · intro q p e
    rcases Env.add_loc e with ⟨rfl, _⟩ | ⟨_, h1⟩
    · exact ⟨_, hr⟩
    · exact h.obj q p h1
  · intro b i v e
    have h1 := h.z b i v e
    have hb := World.block_lt_of_cell? w _ h1
    exact (World.cell?_of_block (hold b hb)).trans h1
  · intro b i v q base e e2
    rcases Env.add_loc e2 with ⟨_, h1⟩ | ⟨_, h1⟩
    · cases h1
      have := World.block_lt_of_cell? w _ (h.z _ i v e)
      simp at this
    · exact h.zap b i v q base e h1
  · intro q o' b base e el
    rcases Env.add_loc el with ⟨rfl, h1⟩ | ⟨hq, h1⟩
    · cases h1
      rw [hr] at e
      cases e
      refine ⟨c, o.ty, (0, 0), heap_alloc_new w _, by simp [Env.add], by simpa using hl, fun _ => ⟨⟨rfl, rfl⟩, vs, VRL.mono hle hv, by simpa using hc⟩⟩
    · obtain ⟨c', ty', fz, g1, g2, g3, g4⟩ := h.row q o' b base e h1
      refine ⟨c', ty', fz, by rw [hold b (h.lt q b base h1).2]; exact g1, ?_, g3, fun hv' => ?_⟩
      · rw [hle.bsz q b base h1]; exact g2
      · obtain ⟨hz, vs', k1, k2⟩ := g4 hv'
        exact ⟨hz, vs', VRL.mono hle k1, k2⟩
  · intro q es b base e el
    rcases Env.add_loc el with ⟨rfl, h1⟩ | ⟨hq, h1⟩
    · rw [hr] at e; cases e
    · obtain ⟨ents, clock, g1, g2, g3⟩ := h.mapo q es b base e h1
      exact ⟨ents, clock, by rw [hold b (h.lt q b base h1).2]; exact g1, VRL.mono hle g2, VRL.mono hle g3⟩
  · intro q x n b base e el
    rcases Env.add_loc el with ⟨rfl, h1⟩ | ⟨hq, h1⟩
    · rw [hr] at e; cases e
    · exact h.iter q x n b base e h1
  · intro r1 r2 b b1 b2 e1 e2
    rcases Env.add_loc e1 with ⟨rfl, h1⟩ | ⟨hq1, h1⟩ <;> rcases Env.add_loc e2 with ⟨rfl, h2⟩ | ⟨hq2, h2⟩
    · exact .inl rfl
    · cases h1; exact absurd h2 (hfresh r2 b2)
    · cases h2; exact absurd h1 (hfresh r1 b1)
    · exact h.coh r1 r2 b b1 b2 h1 h2
  · intro q o' b base e el hq
    rcases Env.add_loc el with ⟨_, h1⟩ | ⟨_, h1⟩
    · cases h1; intro _; rfl
    · exact h.b0 q o' b base e h1 hq
theorem Rel.loc_fresh {E : Env} {s : St} {w : World} (h : Rel E s w) : E.loc s.next = none := by
  cases e : E.loc s.next with
  | none => rfl
  | some p => have := (h.lt s.next p.1 p.2 e).1; omega
theorem Step.alloc {E : Env} {s : St} {w : World} (h : Rel E s w) {vals : List AV} {vs : List Value} (hv : VRL E vals vs)
    (c : Array Value) (ty : TypeId) (hc : ∀ (i : Nat) (v : Value), vs[i]? = some v → c[i]? = some v) (hl : vals.length ≤ c.size) :
    Step E s w (E.add s.next w.heap.size 0 c.size) (pushRow s ty vals) (w.alloc (.cells c ty)) := by
  have h1 := h.push (newRow s ty vals) (h.wf.push_row ty vals)
  obtain ⟨hle, h2⟩ := h1.map_new (r := s.next) (o := { vals := vals, root := s.next, pos := 0, ep := 0, fep := 0, ext := vals.length, solo := true, ty := ty }) get_push_new h.loc_fresh hv c hc hl
  refine ⟨hle, fun r hr => Env.add_ne (by omega), ?_, h2, fun r hr _ _ _ => get_push_old hr, Nat.le_succ _, fun b hb _ _ => heap_alloc_old w _ b hb, rfl, rfl, rfl, by simp, fun _ _ e => .inl e, fun n d e => ⟨d, by unfold pushRow; rw [get_push_old (h.wf.lt e)]; exact e⟩, fun _ _ _ e => .inl e⟩
  intro r b base e
  rcases Env.add_loc e with ⟨_, h3⟩ | ⟨_, h3⟩
  · cases h3; exact .inl (Nat.le_refl _)
  · exact .inr ⟨r, base, h3⟩
theorem VR.newPtr (E : Env) (r b size : Nat) : VR (E.add r b 0 size) (.ptr r 0) (.pointer (some ⟨b, 0, none⟩)) := VR.ptr (base := 0) 0 (Env.add_self E r b 0 size)
theorem rowAt_eq {s : St} {r : Nat} {o : Row} (h : rowAt s r = some o) : s.get r = some (.row o) ∧ valid s o = true := by
  unfold rowAt at h
  split at h
  · rename_i o' ho
    cases hv : valid s o' with
    | true => rw [hv] at h; simp at h; subst h; exact ⟨ho, hv⟩
    | false => rw [hv] at h; simp at h
  · cases h
theorem Rel.cells {E : Env} {s : St} {w : World} (h : Rel E s w) {a : AV} {n : Nat} {l : List AV} (hl : cellsAt n a s = some l) {v : Value} (hv : VR E a v) :
    ∃ (b off : Nat) (vs : List Value), v = .pointer (some ⟨b, off, none⟩) ∧ VRL E l vs ∧ l.length = n ∧ ∀ (i : Nat) (u : Value), vs[i]? = some u → w.cell? ⟨b, off + i, none⟩ = some u := by
  unfold cellsAt at hl
  cases hv with
  | ptr off hloc =>
    rename_i r b base
    simp only at hl
    split at hl
    · rename_i o ho
      obtain ⟨ho1, ho2⟩ := rowAt_eq ho
      obtain ⟨c, ty, fz, g1, g2, g3, g4⟩ := h.row r o b base ho1 hloc
      obtain ⟨_, vs, k1, k2⟩ := g4 ho2
      have hlen := cutN_len hl
      obtain ⟨e1, e2⟩ := takeN_eq hl
      refine ⟨b, base + off, (vs.drop off).take n, rfl, ?_, hlen, fun i u hu => ?_⟩
      · rw [e1]; exact (k1.drop off).take n
      · rw [List.getElem?_take] at hu
        split at hu
        · rw [List.getElem?_drop] at hu
          have := k2 _ u hu
          rw [World.cell?, g1]
          simpa [Nat.add_assoc] using this
        · cases hu
    · cases hl
  | ptrL off hcs hz =>
    rename_i cs vs b base
    simp only at hl
    obtain ⟨e1, e2⟩ := takeN_eq hl
    refine ⟨b, base + off, (vs.drop off).take n, rfl, ?_, cutN_len hl, fun i u hu => ?_⟩
    · rw [e1]; exact (hcs.drop off).take n
    · rw [List.getElem?_take] at hu
      split at hu
      · rw [List.getElem?_drop] at hu
        have := h.z _ _ _ (hz _ u hu)
        rw [← Nat.add_assoc] at this
        exact this
      · cases hu
  | _ => simp at hl
theorem Rel.cell1 {E : Env} {s : St} {w : World} (h : Rel E s w) {a x : AV} (hl : cell1 a s = some x) {v : Value} (hv : VR E a v) :
    ∃ (b off : Nat) (u : Value), v = .pointer (some ⟨b, off, none⟩) ∧ VR E x u ∧ w.cell? ⟨b, off, none⟩ = some u := by
  unfold Am.cell1 at hl
  cases hv with
  | ptr off hloc =>
    rename_i r b base
    simp only at hl
    split at hl
    · rename_i o ho
      obtain ⟨ho1, ho2⟩ := rowAt_eq ho
      obtain ⟨c, ty, fz, g1, g2, g3, g4⟩ := h.row r o b base ho1 hloc
      obtain ⟨_, vs, k1, k2⟩ := g4 ho2
      obtain ⟨u, hu, hxu⟩ := k1.at_ hl
      refine ⟨b, base + off, u, rfl, hxu, ?_⟩
      rw [World.cell?, g1]
      simpa using k2 _ u hu
    · cases hl
  | ptrL off hcs hz =>
    rename_i cs vs b base
    obtain ⟨u, hu, hxu⟩ := hcs.at_ hl
    exact ⟨b, base + off, u, rfl, hxu, h.z _ _ _ (hz _ u hu)⟩
  | _ => simp at hl
end Go.Am
end
section
namespace Go.Am
theorem setRow_heap_ne (w : World) (g k : Nat) (cs : Array Value) (h : k ≠ g) : (w.setRow g cs).heap[k]? = w.heap[k]? := by
  simp only [World.setRow, Array.getElem?_modify]
  rw [if_neg (by omega)]
theorem setRow_size (w : World) (g : Nat) (cs : Array Value) : (w.setRow g cs).heap.size = w.heap.size := by simp [World.setRow]
structure Alike (s s' : St) : Prop where
  next : s'.next = s.next
  wf : Wf s'
  row : ∀ q o2', s'.get q = some (.row o2') → ∃ o2, s.get q = some (.row o2) ∧ o2'.root = o2.root ∧ o2'.pos = o2.pos ∧ o2'.vals.length = o2.vals.length
  ty : ∀ q o2' o2, s'.get q = some (.row o2') → s.get q = some (.row o2) → o2'.ty = o2.ty
  oth : ∀ q x, (∀ o, x ≠ .row o) → s'.get q = some x → s.get q = some x
  there : ∀ q x, s.get q = some x → ∃ x', s'.get q = some x'
theorem Alike.hid {s s' : St} (h : Alike s s') {n : Nat} {d : Hid} (e : s.get n = some (.hid d)) : s'.get n = some (.hid d) := by
  obtain ⟨x, hx⟩ := h.there n _ e
  cases x with
  | row o => obtain ⟨o2, e2, _⟩ := h.row n o hx; rw [e] at e2; cases e2
  | mapo es => have := h.oth n _ (by intro o; simp) hx; rw [e] at this; cases this
  | siter a k => have := h.oth n _ (by intro o; simp) hx; rw [e] at this; cases this
  | hid d' => have := h.oth n _ (by intro o; simp) hx; rw [e] at this; cases this; exact hx
theorem Rel.block {E : Env} {s s' : St} {w : World} (h : Rel E s w) (ha : Alike s s') {b : Nat} {c : Array Value} {ty : TypeId} (hb : w.heap[b]? = some (.cells c ty (0, 0)))
    (hm : ∃ r base, E.loc r = some (b, base)) (c' : Array Value) (hsz : c'.size = c.size)
    (hin : ∀ q o2 base2, s'.get q = some (.row o2) → E.loc q = some (b, base2) → valid s' o2 = true → ty = o2.ty ∧ ∃ vs, VRL E o2.vals vs ∧ ∀ (i : Nat) (v : Value), vs[i]? = some v → c'[base2 + i]? = some v)
    (hout : ∀ q o2' b2 base2, s'.get q = some (.row o2') → E.loc q = some (b2, base2) → b2 ≠ b → valid s' o2' = true → ∃ o2, s.get q = some (.row o2) ∧ valid s o2 = true ∧ o2.vals = o2'.vals) :
    Rel E s' (w.setRow b c') where
  wf := ha.wf
  lt r b2 base e := by rw [ha.next, setRow_size]; exact h.lt r b2 base e
  obj r p e := by obtain ⟨o, ho⟩ := h.obj r p e; exact ha.there r o ho
  z b2 o v e := by
    obtain ⟨r, base, hr⟩ := hm
    have hne : b2 ≠ b := fun e2 => by subst e2; exact h.zap b2 o v r base e hr
    exact (World.cell?_of_block (setRow_heap_ne w b b2 c' hne)).trans (h.z b2 o v e)
  zap := h.zap
  row q o2' b2 base2 e el := by
    obtain ⟨o2, e2, h1, h2, h3⟩ := ha.row q o2' e
    obtain ⟨c2, ty2, fz2, g1, g2, g3, g4⟩ := h.row q o2 b2 base2 e2 el
    by_cases hne : b2 = b
    · subst hne
      rw [hb] at g1
      cases g1
      exact ⟨c', ty, (0, 0), setRow_heap w b2 c c' ty (0, 0) hb, hsz.trans g2, by rw [h3, hsz]; exact g3, fun hv => ⟨⟨rfl, (hin q o2' base2 e el hv).1⟩, (hin q o2' base2 e el hv).2⟩⟩
    · refine ⟨c2, ty2, fz2, by rw [setRow_heap_ne w b b2 c' hne]; exact g1, g2, by rw [h3]; exact g3, fun hv => ?_⟩
      obtain ⟨o3, e3, hv3, hvals⟩ := hout q o2' b2 base2 e el hne hv
      rw [e2] at e3
      cases e3
      rw [← hvals, ha.ty q o2' o2 e e2]
      exact g4 hv3
  mapo q es b2 base2 e el := by
    have e' := ha.oth q _ (by intro o; simp) e
    obtain ⟨ents, clock, g1, g2⟩ := h.mapo q es b2 base2 e' el
    have hne : b2 ≠ b := fun e2 => by subst e2; rw [hb] at g1; cases g1
    exact ⟨ents, clock, by rw [setRow_heap_ne w b b2 c' hne]; exact g1, g2⟩
  iter q x n b2 base2 e el := h.iter q x n b2 base2 (ha.oth q _ (by intro o; simp) e) el
  coh r1 r2 b2 b1 b3 e1 e2 := by
    rcases h.coh r1 r2 b2 b1 b3 e1 e2 with h1 | ⟨o1, o2, k1, k2, k3, k4⟩
    · exact .inl h1
    · obtain ⟨x1, hx1⟩ := ha.there r1 _ k1
      obtain ⟨x2, hx2⟩ := ha.there r2 _ k2
      have y1 : ∃ o, x1 = .row o := by
        cases x1 with
        | row o => exact ⟨o, rfl⟩
        | mapo es => have := ha.oth r1 _ (by intro o; simp) hx1; rw [k1] at this; cases this
        | siter a n => have := ha.oth r1 _ (by intro o; simp) hx1; rw [k1] at this; cases this
        | hid d => have := ha.oth r1 _ (by intro o; simp) hx1; rw [k1] at this; cases this
      have y2 : ∃ o, x2 = .row o := by
        cases x2 with
        | row o => exact ⟨o, rfl⟩
        | mapo es => have := ha.oth r2 _ (by intro o; simp) hx2; rw [k2] at this; cases this
        | siter a n => have := ha.oth r2 _ (by intro o; simp) hx2; rw [k2] at this; cases this
        | hid d => have := ha.oth r2 _ (by intro o; simp) hx2; rw [k2] at this; cases this
      obtain ⟨o1', rfl⟩ := y1
      obtain ⟨o2', rfl⟩ := y2
      obtain ⟨p1, m1, m2, m3, _⟩ := ha.row r1 o1' hx1
      obtain ⟨p2, n1, n2, n3, _⟩ := ha.row r2 o2' hx2
      rw [k1] at m1; cases m1
      rw [k2] at n1; cases n1
      exact .inr ⟨o1', o2', hx1, hx2, by rw [m2, n2]; exact k3, by rw [n3, m3]; exact k4⟩
  b0 q o2' b2 base2 e el hq := by
    obtain ⟨o2, e2, m1, m2, _⟩ := ha.row q o2' e
    exact fun hp => h.b0 q o2 b2 base2 e2 el (m1.symm.trans hq) (m2.symm.trans hp)
  hid n d b2 e eb w1 hw := h.hid n d b2 (ha.oth n _ (by intro o; simp) e) eb w1 fun k hk => (hw k hk).trans (setRow_heap_ne w b k c' fun e2 => by
    obtain ⟨r, base, hr⟩ := hm
    exact (h.own n k hk).2.1 r base (by rw [e2]; exact hr))
  own := by rw [setRow_size]; exact h.own
  hlt n b2 eb := by
    obtain ⟨h1, d, h2⟩ := h.hlt n b2 eb
    exact ⟨by rw [ha.next]; exact h1, d, ha.hid h2⟩
theorem setRow_same (w : World) (b : Nat) (c : Array Value) (ty : TypeId) (fr : Nat × Nat) (hb : w.heap[b]? = some (.cells c ty fr)) : w.setRow b c = w := setRow_self w b c ty fr hb
theorem Rel.map_old {E : Env} {s : St} {w : World} (h : Rel E s w) {r r0 : Nat} {o o0 : Row} (hr : s.get r = some (.row o)) (hn : E.loc r = none)
    {b base base0 : Nat} (hr0 : s.get r0 = some (.row o0)) (hl0 : E.loc r0 = some (b, base0)) (hroot : o0.root = o.root) (hpos : base + o0.pos = base0 + o.pos)
    {c : Array Value} {ty : TypeId} (hb : w.heap[b]? = some (.cells c ty (0, 0))) (hty : ty = o.ty) (hne : o.root ≠ r) (hfit : base + o.vals.length ≤ c.size)
    (hv : valid s o = true → ∃ vs, VRL E o.vals vs ∧ ∀ (i : Nat) (v : Value), vs[i]? = some v → c[base + i]? = some v) :
    E.le (E.add r b base (E.bsz b)) ∧ Rel (E.add r b base (E.bsz b)) s w := by
  have hle : E.le (E.add r b base (E.bsz b)) := Env.add_le hn fun _ _ _ => rfl
  have hbs : E.bsz b = c.size := by
    obtain ⟨c2, ty2, _, g1, g2, _⟩ := h.row r0 o0 b base0 hr0 hl0
    rw [hb] at g1; cases g1; exact g2.symm
  refine ⟨hle, h.wf, ?_, ?_, h.z, ?_, ?_, ?_, ?_, ?_, ?_, h.hid, fun n k hk => ?_, h.hlt⟩
  rotate_right
  · obtain ⟨o1, o2, o3⟩ := h.own n k hk
    refine ⟨o1, fun q base2 e => ?_, o3⟩
    rcases Env.add_loc e with ⟨_, h1⟩ | ⟨_, h1⟩
    · cases h1; exact o2 r0 base0 hl0
    · exact o2 q base2 h1
  · intro q b2 base2 e
    rcases Env.add_loc e with ⟨rfl, h1⟩ | ⟨_, h1⟩
    · cases h1; exact ⟨h.wf.lt hr, (h.lt r0 b base0 hl0).2⟩
    · exact h.lt q b2 base2 h1
  · intro q p e
    rcases Env.add_loc e with ⟨rfl, _⟩ | ⟨_, h1⟩
    · exact ⟨_, hr⟩
    · exact h.obj q p h1
  · intro b2 i v q base2 e e2
    rcases Env.add_loc e2 with ⟨_, h1⟩ | ⟨_, h1⟩
    · cases h1; exact h.zap _ i v r0 base0 e hl0
    · exact h.zap b2 i v q base2 e h1
  · intro q o2 b2 base2 e el
    rcases Env.add_loc el with ⟨rfl, h1⟩ | ⟨hq, h1⟩
    · cases h1
      rw [hr] at e
      cases e
      refine ⟨c, ty, (0, 0), hb, by simp [Env.add, hbs], hfit, fun hvv => ?_⟩
      obtain ⟨vs, k1, k2⟩ := hv hvv
      exact ⟨⟨rfl, hty⟩, vs, VRL.mono hle k1, k2⟩
    · obtain ⟨c', ty', fz, g1, g2, g3, g4⟩ := h.row q o2 b2 base2 e h1
      refine ⟨c', ty', fz, g1, ?_, g3, fun hv' => ?_⟩
      · rw [hle.bsz q b2 base2 h1]; exact g2
      · obtain ⟨hz, vs', k1, k2⟩ := g4 hv'
        exact ⟨hz, vs', VRL.mono hle k1, k2⟩
  · intro q es b2 base2 e el
    rcases Env.add_loc el with ⟨rfl, h1⟩ | ⟨hq, h1⟩
    · rw [hr] at e; cases e
    · obtain ⟨ents, clock, g1, g2, g3⟩ := h.mapo q es b2 base2 e h1
      exact ⟨ents, clock, g1, VRL.mono hle g2, VRL.mono hle g3⟩
  · intro q x n b2 base2 e el
    rcases Env.add_loc el with ⟨rfl, h1⟩ | ⟨hq, h1⟩
    · rw [hr] at e; cases e
    · exact h.iter q x n b2 base2 e h1
  · intro r1 r2 b2 b1 b3 e1 e2
    rcases Env.add_loc e1 with ⟨rfl, h1⟩ | ⟨hq1, h1⟩ <;> rcases Env.add_loc e2 with ⟨rfl, h2⟩ | ⟨hq2, h2⟩
    · exact .inl rfl
    · cases h1
      rcases h.coh r0 r2 b base0 b3 hl0 h2 with h3 | ⟨o1, o2, k1, k2, k3, k4⟩
      · subst h3
        rw [hl0] at h2; cases h2
        exact .inr ⟨o, o0, hr, hr0, hroot.symm, hpos⟩
      · rw [hr0] at k1; cases k1
        exact .inr ⟨o, o2, hr, k2, hroot.symm.trans k3, by omega⟩
    · cases h2
      rcases h.coh r0 r1 b base0 b1 hl0 h1 with h3 | ⟨o1, o2, k1, k2, k3, k4⟩
      · subst h3
        rw [hl0] at h1; cases h1
        exact .inr ⟨o0, o, hr0, hr, hroot, hpos.symm⟩
      · rw [hr0] at k1; cases k1
        exact .inr ⟨o2, o, k2, hr, k3.symm.trans hroot, by omega⟩
    · exact h.coh r1 r2 b2 b1 b3 h1 h2
  · intro q o2 b2 base2 e el hq
    rcases Env.add_loc el with ⟨h2, _⟩ | ⟨_, h1⟩
    · subst h2; rw [hr] at e; cases e; exact absurd hq hne
    · exact h.b0 q o2 b2 base2 e h1 hq
/-! ## A store -/
theorem VR.single {E : Env} {a : AV} {v : Value} (h : VR E a v) (hs : a.single = true) : v.oneCell' = true := by
  cases h <;> first | rfl | assumption | (simp [AV.single] at hs)
theorem VRL.single {E : Env} : ∀ {a : List AV} {v : List Value}, VRL E a v → a.all AV.single = true → ∀ u ∈ v, u.oneCell' = true
  | _, _, .nil, _, u, hu => by simp at hu
  | _, _, .cons h hl, hs, u, hu => by
    simp only [List.all_cons, Bool.and_eq_true] at hs
    rcases List.mem_cons.1 hu with rfl | hu
    · exact h.single hs.1
    · exact hl.single hs.2 u hu
theorem valid_solo {s : St} {o : Row} (h : o.solo = true) : valid s o = true := by simp [valid, h]
theorem valid_multi {s : St} {o q : Row} (h : o.solo = false) (hq : s.get o.root = some (.row q)) : valid s o = o.ep.beq q.fep := by simp [valid, h, hq]
theorem cond_of_true {α : Type} {b : Bool} {x y : α} (h : b = true) : (bif b then x else y) = x := by subst h; rfl
theorem cond_of_false {α : Type} {b : Bool} {x y : α} (h : b = false) : (bif b then x else y) = y := by subst h; rfl
theorem beq_false_of_ne {a b : Nat} (h : a ≠ b) : a.beq b = false := by
  cases hb : a.beq b with
  | false => rfl
  | true => exact absurd (Nat.eq_of_beq_eq_true hb) h
structure Stored (s s' : St) (r : Nat) (o : Row) (vals : List AV) : Prop where
  alike : Alike s s'
  at_ : ∃ o', s'.get r = some (.row o') ∧ o'.vals = vals ∧ o'.root = o.root ∧ o'.pos = o.pos
  others : ∀ q o2, q ≠ r → s'.get q = some (.row o2) → valid s' o2 = true → o2.root ≠ o.root ∧ ∃ o3, s.get q = some (.row o3) ∧ valid s o3 = true ∧ o3.vals = o2.vals
  same : ∀ q, q ≠ r → q ≠ o.root → s'.get q = s.get q
theorem stored_solo {s : St} (hw : Wf s) {r : Nat} {o : Row} (hr : s.get r = some (.row o)) (hs : o.solo = true) (vals : List AV) (hl : vals.length = o.vals.length) :
    Stored s (s.set r (.row { o with vals := vals })) r o vals := by
  obtain ⟨hroot, hsolo⟩ := hw.solo r o hr hs
  obtain ⟨q0, hq0, e1, e2, e3⟩ := hw.root r o hr
  rw [hroot, hr] at hq0
  cases hq0
  have hget : ∀ q, q ≠ r → (s.set r (.row { o with vals := vals })).get q = s.get q := fun q hq => St.get_set_ne s _ (fun e => hq e.symm)
  have hself : (s.set r (.row { o with vals := vals })).get r = some (.row { o with vals := vals }) := St.get_set_same _ _ _
  have hvalid : ∀ q o2, q ≠ r → s.get q = some (.row o2) → valid (s.set r (.row { o with vals := vals })) o2 = valid s o2 := fun q o2 hq e =>
    valid_congr (hget _ (fun e' => hq (hsolo q o2 e e')))
  refine ⟨⟨rfl, ⟨?_, ?_, ?_, fun q o2 e => by
    by_cases hq : q = r
    · subst hq; rw [hself] at e; cases e; exact hw.rle q o hr
    · rw [hget q hq] at e; exact hw.rle q o2 e⟩, ?_, ?_, ?_, ?_⟩, ⟨_, hself, rfl, rfl, rfl⟩, ?_, fun q hq _ => hget q hq⟩
  · intro q hq
    have : q ≠ r := fun e => by subst e; have := hw.lt hr; simp at hq; omega
    rw [hget q this]; exact hw.fresh q hq
  · intro q o2 e
    by_cases hq : q = r
    · subst hq
      rw [hself] at e; cases e
      exact ⟨{ o with vals := vals }, (congrArg (s.set q (.row { o with vals := vals })).get hroot).trans hself, rfl, e2, fun _ => by simp only [hl]; exact e3 (valid_solo hs)⟩
    · rw [hget q hq] at e
      obtain ⟨q2, g1, g2, g3, g4⟩ := hw.root q o2 e
      have hne : o2.root ≠ r := fun e' => hq (hsolo q o2 e e')
      exact ⟨q2, by rw [hget _ hne]; exact g1, g2, g3, fun hv => g4 (by rw [hvalid q o2 hq e] at hv; exact hv)⟩
  · intro q o2 e h2
    by_cases hq : q = r
    · subst hq
      rw [hself] at e; cases e
      refine ⟨hroot, fun r2 o3 e3' h3 => ?_⟩
      by_cases hr2 : r2 = q
      · exact hr2
      · rw [hget r2 hr2] at e3'; exact hsolo r2 o3 e3' h3
    · rw [hget q hq] at e
      obtain ⟨k1, k2⟩ := hw.solo q o2 e h2
      refine ⟨k1, fun r2 o3 e3' h3 => ?_⟩
      by_cases hr2 : r2 = r
      · subst hr2
        rw [hself] at e3'; cases e3'
        exact k2 r2 o hr h3
      · rw [hget r2 hr2] at e3'; exact k2 r2 o3 e3' h3
  · intro q o2 e
    by_cases hq : q = r
    · subst hq; rw [hself] at e; cases e; exact ⟨o, hr, rfl, rfl, hl⟩
    · rw [hget q hq] at e; exact ⟨o2, e, rfl, rfl, rfl⟩
  · intro q o2' o2 e e2
    by_cases hq : q = r
    · subst hq; rw [hself] at e; cases e; rw [hr] at e2; cases e2; rfl
    · rw [hget q hq, e2] at e; cases e; rfl
  · intro q x hx e
    by_cases hq : q = r
    · subst hq; rw [hself] at e; cases e; exact absurd rfl (hx _)
    · rw [hget q hq] at e; exact e
  · intro q x e
    by_cases hq : q = r
    · subst hq; exact ⟨_, hself⟩
    · exact ⟨x, by rw [hget q hq]; exact e⟩
  · intro q o2 hq e hv
    rw [hget q hq] at e
    refine ⟨fun e' => hq (hsolo q o2 e (e'.trans hroot)), o2, e, ?_, rfl⟩
    rw [hvalid q o2 hq e] at hv
    exact hv
theorem stored_multi {s s' : St} (hw : Wf s) {r : Nat} {o q0 : Row} (hr : s.get r = some (.row o)) (hs : o.solo = false) (hq0 : s.get o.root = some (.row q0))
    (vals : List AV) (hl : vals.length = o.vals.length) (hv : valid s o = true) (hn : s'.next = s.next)
    (hself : ∃ o', s'.get r = some (.row o') ∧ o'.vals = vals ∧ o'.root = o.root ∧ o'.pos = o.pos ∧ o'.solo = false ∧ o'.ep = q0.fep + 1 ∧ o'.ty = o.ty)
    (hrt : ∃ q', s'.get o.root = some (.row q') ∧ q'.fep = q0.fep + 1 ∧ q'.ext = q0.ext ∧ q'.root = q0.root ∧ q'.pos = q0.pos ∧ q'.solo = q0.solo ∧ q'.vals.length = q0.vals.length ∧ (o.root ≠ r → q'.ep = q0.ep ∧ q'.vals = q0.vals) ∧ q'.ty = q0.ty)
    (hget : ∀ q, q ≠ r → q ≠ o.root → s'.get q = s.get q) : Stored s s' r o vals := by
  obtain ⟨o', h1, h2, h3, h4, h5, h6, h7⟩ := hself
  obtain ⟨q', k1, k2, k3, k4, k5, k6, k7, k8, k9⟩ := hrt
  obtain ⟨q1, g1, g2, g3, g4⟩ := hw.root r o hr
  rw [hq0] at g1; cases g1
  -- nobody in the family stands alone
  have hfam : ∀ q o2, s.get q = some (.row o2) → o2.root = o.root → o2.solo = false := by
    intro q o2 e er
    cases hso : o2.solo with
    | false => rfl
    | true =>
      obtain ⟨m1, m2⟩ := hw.solo q o2 e hso
      have : r = q := m2 r o hr (er.symm.trans m1)
      subst this
      rw [hr] at e; cases e
      rw [hs] at hso; cases hso
  have hroot0 : q0.root = o.root := g2
  -- the rows of s'
  have hrow : ∀ q o2', s'.get q = some (.row o2') → ∃ o2, s.get q = some (.row o2) ∧ o2'.root = o2.root ∧ o2'.pos = o2.pos ∧ o2'.vals.length = o2.vals.length ∧ o2'.solo = o2.solo ∧
      (q ≠ r → o2'.ep = o2.ep ∧ o2'.vals = o2.vals) ∧ (q ≠ o.root → q ≠ r → o2' = o2) := by
    intro q o2' e
    by_cases hq : q = r
    · subst hq
      rw [h1] at e; cases e
      exact ⟨o, hr, h3, h4, by rw [h2, hl], by rw [h5, hs], fun h => absurd rfl h, fun _ h => absurd rfl h⟩
    · by_cases hq2 : q = o.root
      · subst hq2
        rw [k1] at e; cases e
        exact ⟨q0, hq0, k4, k5, k7, k6, fun _ => k8 (fun e' => hq e'), fun h => absurd rfl h⟩
      · rw [hget q hq hq2] at e
        exact ⟨o2', e, rfl, rfl, rfl, rfl, fun _ => ⟨rfl, rfl⟩, fun _ _ => rfl⟩
  have hvo : ∀ q o2', q ≠ r → s'.get q = some (.row o2') → valid s' o2' = true → o2'.root ≠ o.root := by
    intro q o2' hq e hv2 er
    obtain ⟨o2, e2, a1, a2, a3, a4, a5, _⟩ := hrow q o2' e
    have hso := hfam q o2 e2 (a1.symm.trans er)
    rw [valid_multi (a4.trans hso) (by rw [er]; exact k1)] at hv2
    have hep := Nat.eq_of_beq_eq_true hv2
    obtain ⟨q2, b1, b2, b3, b4⟩ := hw.root q o2 e2
    rw [a1.symm.trans er, hq0] at b1; cases b1
    have := (a5 hq).1
    omega
  have hvs : ∀ q o2, s.get q = some (.row o2) → o2.root ≠ o.root → ∀ o2', o2'.root = o2.root → o2'.solo = o2.solo → o2'.ep = o2.ep → valid s' o2' = valid s o2 := by
    intro q o2 e er o2' c1 c2 c3
    obtain ⟨q2, b1, b2, b3, b4⟩ := hw.root q o2 e
    have hne : o2.root ≠ r := fun e' => by
      rw [e', hr] at b1; cases b1
      exact er b2.symm
    have hg : s'.get o2'.root = s.get o2.root := by rw [c1]; exact hget _ hne er
    unfold valid
    rw [hg, c2, c3]
  refine ⟨⟨hn, ⟨?_, ?_, ?_, fun q o2' e => by obtain ⟨o2, e2, a1, _⟩ := hrow q o2' e; rw [a1]; exact hw.rle q o2 e2⟩, ?_, ?_, ?_, ?_⟩, ⟨o', h1, h2, h3, h4⟩, ?_, hget⟩
  · intro q hq
    rw [hn] at hq
    have n1 : q ≠ r := fun e => by subst e; have := hw.lt hr; omega
    have n2 : q ≠ o.root := fun e => by subst e; have := hw.lt hq0; omega
    rw [hget q n1 n2]; exact hw.fresh q hq
  · intro q o2' e
    obtain ⟨o2, e2, a1, a2, a3, a4, a5, _⟩ := hrow q o2' e
    by_cases er : o2.root = o.root
    · refine ⟨q', by rw [a1, er]; exact k1, by rw [k4, a1, er]; exact hroot0, ?_, ?_⟩
      · by_cases hq : q = r
        · subst hq; rw [h1] at e; cases e; rw [h6, k2]; exact Nat.le_refl _
        · obtain ⟨q2, b1, b2, b3, b4⟩ := hw.root q o2 e2
          rw [er, hq0] at b1; cases b1
          have := (a5 hq).1
          omega
      · intro hv2
        by_cases hq : q = r
        · subst hq
          rw [hr] at e2; cases e2
          rw [a2, a3, k3]; exact g4 hv
        · exact absurd (a1.trans er) (hvo q o2' hq e hv2)
    · obtain ⟨q2, b1, b2, b3, b4⟩ := hw.root q o2 e2
      have hq : q ≠ r := fun e' => by subst e'; rw [hr] at e2; cases e2; exact er rfl
      have hne : o2.root ≠ r := fun e' => by rw [e', hr] at b1; cases b1; exact er b2.symm
      have hqr : q ≠ o.root := fun e' => by subst e'; rw [hq0] at e2; cases e2; exact er hroot0
      refine ⟨q2, by rw [a1, hget _ hne er]; exact b1, by rw [a1]; exact b2, by rw [(a5 hq).1]; exact b3, fun hv2 => ?_⟩
      rw [a2, a3]
      exact b4 (by rw [← hvs q o2 e2 er o2' a1 a4 (a5 hq).1]; exact hv2)
  · intro q o2' e hso
    obtain ⟨o2, e2, a1, a2, a3, a4, a5, _⟩ := hrow q o2' e
    obtain ⟨m1, m2⟩ := hw.solo q o2 e2 (a4.symm.trans hso)
    refine ⟨a1.trans m1, fun r2 o3' e3 h3' => ?_⟩
    obtain ⟨o3, e4, c1, _⟩ := hrow r2 o3' e3
    exact m2 r2 o3 e4 (c1.symm.trans h3')
  · intro q o2' e
    obtain ⟨o2, e2, a1, a2, a3, _⟩ := hrow q o2' e
    exact ⟨o2, e2, a1, a2, a3⟩
  · intro q o2' o2 e e2
    by_cases n1 : q = r
    · subst n1; rw [h1] at e; cases e; rw [hr] at e2; cases e2; exact h7
    · by_cases n2 : q = o.root
      · subst n2; rw [k1] at e; cases e; rw [hq0] at e2; cases e2; exact k9
      · rw [hget q n1 n2, e2] at e; cases e; rfl
  · intro q x hx e
    have n1 : q ≠ r := fun e' => by subst e'; rw [h1] at e; cases e; exact hx _ rfl
    have n2 : q ≠ o.root := fun e' => by subst e'; rw [k1] at e; cases e; exact hx _ rfl
    rw [hget q n1 n2] at e; exact e
  · intro q x e
    by_cases n1 : q = r
    · subst n1; exact ⟨_, h1⟩
    · by_cases n2 : q = o.root
      · subst n2; exact ⟨_, k1⟩
      · exact ⟨x, by rw [hget q n1 n2]; exact e⟩
  · intro q o2' hq e hv2
    have hne := hvo q o2' hq e hv2
    obtain ⟨o2, e2, a1, a2, a3, a4, a5, _⟩ := hrow q o2' e
    refine ⟨hne, o2, e2, ?_, (a5 hq).2.symm⟩
    rw [← hvs q o2 e2 (fun h => hne (a1.trans h)) o2' a1 a4 (a5 hq).1]; exact hv2
theorem storeCellsA_stored {s s' : St} (hw : Wf s) {r off : Nat} {new : List AV} (h : storeCellsA s r off new = some s') :
    ∃ o vals, s.get r = some (.row o) ∧ valid s o = true ∧ overwrite o.vals off new = some vals ∧ Stored s s' r o vals := by
  unfold storeCellsA at h
  split at h
  · rename_i o ho
    obtain ⟨hr, hv⟩ := rowAt_eq ho
    split at h
    · rename_i vals hvals
      have hl := (overwrite_len hvals).1
      refine ⟨o, vals, hr, hv, hvals, ?_⟩
      rcases Bool.eq_false_or_eq_true o.solo with hs | hs
      · rw [cond_of_true hs] at h
        cases h
        exact stored_solo hw hr hs vals hl
      · rw [cond_of_false hs] at h
        split at h
        · rename_i q hq
          rcases Bool.eq_false_or_eq_true (o.root.beq r) with hb | hb
          · have hroot := Nat.eq_of_beq_eq_true hb
            rw [cond_of_true hb] at h
            cases h
            have hqo : q = o := by rw [hroot, hr] at hq; cases hq; rfl
            subst hqo
            exact stored_multi hw hr hs hq vals hl hv rfl ⟨_, St.get_set_same _ _ _, rfl, rfl, rfl, hs, rfl, rfl⟩
              ⟨_, (congrArg (s.set r _).get hroot).trans (St.get_set_same _ _ _), rfl, rfl, rfl, rfl, rfl, hl, fun h => absurd hroot h, rfl⟩ (fun q2 h1 _ => St.get_set_ne _ _ (fun e => h1 e.symm))
          · have hroot : o.root ≠ r := fun e => by rw [e] at hb; simp at hb
            rw [cond_of_false hb] at h
            cases h
            exact stored_multi hw hr hs hq vals hl hv rfl ⟨_, St.get_set_same _ _ _, rfl, rfl, rfl, hs, rfl, rfl⟩
              ⟨_, (St.get_set_ne _ _ (fun e => hroot e.symm)).trans (St.get_set_same _ _ _), rfl, rfl, rfl, rfl, rfl, rfl, fun _ => ⟨rfl, rfl⟩, rfl⟩
              (fun q2 h1 h2 => by rw [St.get_set_ne _ _ (fun e => h1 e.symm), St.get_set_ne _ _ (fun e => h2 e.symm)])
        · cases h
    · cases h
  · cases h
theorem Step.store {E : Env} {s s' : St} {w : World} (h : Rel E s w) {r off : Nat} {new : List AV} (hs : storeCellsA s r off new = some s') {vs : List Value} (hv : VRL E new vs)
    {b base : Nat} (hl : E.loc r = some (b, base)) :
    ∃ c ty, w.heap[b]? = some (.cells c ty (0, 0)) ∧ base + off + vs.length ≤ c.size ∧
      Step E s w E s' (w.setRow b (c.toList.take (base + off) ++ vs ++ c.toList.drop (base + off + vs.length)).toArray) := by
  obtain ⟨o, vals, hr, hvo, hover, hst⟩ := storeCellsA_stored h.wf hs
  obtain ⟨c, ty, fz, g1, g2, g3, g4⟩ := h.row r o b base hr hl
  obtain ⟨⟨hz, hty⟩, us, k1, k2⟩ := g4 hvo
  subst hz
  obtain ⟨l1, l2⟩ := overwrite_len hover
  have hvl := hv.length
  have hfit : base + off + vs.length ≤ c.size := by omega
  refine ⟨c, ty, g1, hfit, ?_⟩
  have hcsz : (c.toList.take (base + off) ++ vs ++ c.toList.drop (base + off + vs.length)).toArray.size = c.size := by
    simp only [List.size_toArray, List.length_append, List.length_take, List.length_drop, Array.length_toList]; omega
  have hcget : ∀ i, (c.toList.take (base + off) ++ vs ++ c.toList.drop (base + off + vs.length)).toArray[i]? = if base + off ≤ i ∧ i < base + off + vs.length then vs[i - (base + off)]? else c[i]? := by
    intro i
    simp only [List.getElem?_toArray, List.append_assoc, List.getElem?_append, List.length_take, Array.length_toList, List.getElem?_take, List.getElem?_drop, Array.getElem?_toList]
    have hmin : min (base + off) c.size = base + off := by omega
    rw [hmin]
    by_cases c1 : i < base + off
    · rw [if_pos c1, if_pos c1, if_neg (by omega)]
    · rw [if_neg c1]
      by_cases c2 : i - (base + off) < vs.length
      · rw [if_pos c2, if_pos (by omega)]
      · rw [if_neg c2, if_neg (by omega)]
        congr 1; omega
  obtain ⟨o', e1, e2, e3, e4⟩ := hst.at_
  have hrel : Rel E s' (w.setRow b (c.toList.take (base + off) ++ vs ++ c.toList.drop (base + off + vs.length)).toArray) := by
    refine h.block hst.alike g1 ⟨r, base, hl⟩ _ hcsz ?_ ?_
    · intro q o2 base2 eq el hv2
      by_cases hq : q = r
      · subst hq
        rw [e1] at eq; cases eq
        rw [hl] at el; cases el
        -- the new cells
        refine ⟨by rw [hst.alike.ty q o' o e1 hr]; exact hty, us.take off ++ vs ++ us.drop (off + vs.length), ?_, fun i v hi => ?_⟩
        · rw [e2]
          refine VRL.of_get ?_ ?_
          · have := k1.length
            simp only [List.length_append, List.length_take, List.length_drop]; omega
          · intro i a v ha hv3
            have ho := overwrite_get hover i
            rw [ha] at ho
            have hlu := k1.length
            simp only [List.append_assoc, List.getElem?_append, List.length_take, List.getElem?_take, List.getElem?_drop] at hv3
            have hmin : min off us.length = off := by omega
            rw [hmin] at hv3
            by_cases c1 : i < off
            · rw [if_pos c1, if_pos c1] at hv3
              rw [if_neg (by omega)] at ho
              obtain ⟨u, hu, hau⟩ := k1.at_ ho.symm
              rw [hu] at hv3; cases hv3; exact hau
            · rw [if_neg c1] at hv3
              by_cases c2 : i - off < vs.length
              · rw [if_pos c2] at hv3
                rw [if_pos (by omega)] at ho
                obtain ⟨u, hu, hau⟩ := hv.at_ ho.symm
                rw [hu] at hv3; cases hv3; exact hau
              · rw [if_neg c2] at hv3
                rw [if_neg (by omega)] at ho
                obtain ⟨u, hu, hau⟩ := k1.at_ ho.symm
                rw [show off + vs.length + (i - off - vs.length) = i by omega, hu] at hv3
                cases hv3; exact hau
        · rw [hcget]
          have hlu := k1.length
          simp only [List.append_assoc, List.getElem?_append, List.length_take, List.getElem?_take, List.getElem?_drop] at hi
          have hmin : min off us.length = off := by omega
          rw [hmin] at hi
          by_cases c1 : i < off
          · rw [if_pos c1, if_pos c1] at hi
            rw [if_neg (by omega)]
            exact k2 i v hi
          · rw [if_neg c1] at hi
            by_cases c2 : i - off < vs.length
            · rw [if_pos c2] at hi
              rw [if_pos (by omega), ← hi]
              congr 1; omega
            · rw [if_neg c2] at hi
              rw [if_neg (by omega)]
              have := k2 _ v hi
              rw [← this]; congr 1; omega
      · obtain ⟨n1, o3, n2, n3, n4⟩ := hst.others q o2 hq eq hv2
        obtain ⟨x2, y1, y2, _⟩ := hst.alike.row q o2 eq
        rw [n2] at y1; cases y1
        rcases h.coh q r b base2 base el hl with h3 | ⟨z1, z2, m1, m2, m3, m4⟩
        · exact absurd h3 hq
        · rw [n2] at m1; cases m1
          rw [hr] at m2; cases m2
          exact absurd (y2.trans m3) n1
    · intro q o2 b2 base2 eq el hne hv2
      by_cases hq : q = r
      · subst hq; rw [hl] at el; cases el; exact absurd rfl hne
      · obtain ⟨_, o3, n2, n3, n4⟩ := hst.others q o2 hq eq hv2
        exact ⟨o3, n2, n3, n4⟩
  refine ⟨.refl E, fun _ _ => rfl, fun q b2 base2 e => .inr ⟨q, base2, e⟩, hrel, ?_, ?_, ?_, rfl, rfl, rfl, by rw [setRow_size]; exact Nat.le_refl _, fun _ _ e => .inl e, fun n d e => ⟨d, hst.alike.hid e⟩, fun _ _ _ e => .inl e⟩
  · intro q hq hn hso _
    have n1 : q ≠ r := fun e => by subst e; rw [hl] at hn; cases hn
    by_cases n2 : q = o.root
    · obtain ⟨q0, m1, _⟩ := h.wf.root r o hr
      rw [← n2] at m1
      exact absurd ((h.wf.solo q q0 m1 (hso q0 m1)).2 r o hr n2.symm).symm n1
    · exact hst.same q n1 n2
  · rw [hst.alike.next]; exact Nat.le_refl _
  · intro b2 hb2 hn _
    exact setRow_heap_ne w b b2 _ (fun e => by subst e; exact hn r base hl)
end Go.Am
end
