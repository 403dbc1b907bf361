/- A second meaning for the model's code: regions, control, functions. Definitions. -/
import Derived.Test.YtaiddjgpnpbckaaGreatDoorAmDef
import Derived.Orders
set_option autoImplicit false
namespace Go.Am

mutual
def AV.same : AV → AV → Bool
  | .int k a, .int j b => kindEq k j && eqI a b
  | .bool a, .bool b => bif a then b else !b
  | .str a, .str b => eqNs a b
  | .nilp, .nilp => true
  | .ptr r a, .ptr q b => r.beq q && a.beq b
  | .ptrL l a, .ptrL m b => a.beq b && AV.sames l m
  | .sl r a b c d, .sl r' a' b' c' d' => r.beq r' && (a.beq a' && (b.beq b' && (c.beq c' && (bif d then d' else !d'))))
  | .lst l a b c, .lst l' a' b' c' => a.beq a' && ((bif b then b' else !b') && ((bif c then c' else !c') && AV.sames l l'))
  | .mp none, .mp none => true
  | .mp (some a), .mp (some b) => a.beq b
  | .hptr a, .hptr b => a.beq b
  | .fn (.func f) a b, .fn (.func g) c d => f.beq g && (AV.sames a c && AV.sames b d)
  | .nilfn, .nilfn => true
  | .ifc t a, .ifc u b => t.beq u && AV.same a b
  | .nilifc, .nilifc => true
  | .agg a, .agg b => AV.sames a b
  | .tup a, .tup b => AV.sames a b
  | _, _ => false
def AV.sames : List AV → List AV → Bool
  | [], [] => true
  | a :: l, b :: m => AV.same a b && AV.sames l m
  | _, _ => false
end

/-! ## Plans -/

/-- Of an operation: it needs no memory; it reads; it makes a new row; it is an effect (or passes for one). -/
inductive Kd where
  | pure
  | read
  | new
  | eff

def Kd.isEff : Kd → Bool
  | .eff => true
  | _ => false
def Kd.isRead : Kd → Bool
  | .read => true
  | _ => false

def kdOf (P : Program) (o : Oper) : Kd :=
  match o.op with
  | .move _ | .pick .. | .build .. | .nilCheck _ | .fieldAddr .. | .field .. | .indexAddr .. | .index .. | .extract .. | .makeFunc .. | .makeInterface ..
  | .typeAssert .. | .binOp .. | .unOp .. => .pure
  | .slice ty .. => match P.underlying ty with | some (.array _ _) => .eff | _ => .pure
  | .convert src _ _ => match P.underlying src with | some (.slice _) | some (.pointer _) | some .unsafePointer => .read | _ => .pure
  | .load .. => .read
  | .alloc _ | .box .. | .buildSlice .. => .new
  | .call { callee := .builtin b, args := _, argTypes := ts } => match b with
    | .len => match ts.toList with
      | [ty] => match P.underlying ty with | some (.map _ _) => .eff | _ => .pure
      | _ => .eff
    | .cap | .min | .max => .pure
    | _ => .eff
  | _ => .eff

def edgesOf (o : Oper) : List Nat := (o.after.toList.filter (Region.binds .any)).map (·.on)

def orAll (acc : List Nat) : List Nat → Nat
  | [] => 0
  | j :: l => (2 ^ j ||| acc.getD j 0) ||| orAll acc l
def befGo : List Oper → List Nat → List Nat
  | [], acc => acc
  | o :: l, acc => befGo l (acc ++ [orAll acc (edgesOf o)])

/-- one operation of a plan: which, its kind, who is before it; what it writes and looks at -/
structure Plat where
  i : Nat
  o : Oper
  kd : Kd
  bef : Nat
  dst : Option Nat
  looks : List Nat

def subset (a b : Nat) : Bool := (a &&& b).beq a

/-- the next one to come: no effect if that may be; else the first that may come -/
def nextOf (done : Nat) (eff : Bool) : List Plat → Option Plat
  | [] => none
  | p :: l => bif !done.testBit p.i && subset p.bef done && (eff || !p.kd.isEff) then some p else nextOf done eff l

def orderOf (ps : List Plat) : Nat → Nat → List Plat
  | 0, _ => []
  | f + 1, done => match (match nextOf done false ps with | some p => some p | none => nextOf done true ps) with
    | some p => p :: orderOf ps f (done ||| 2 ^ p.i)
    | none => []

def platsGo (P : Program) (ops : Array Oper) : Nat → List Nat → List Oper → List Plat
  | i, b :: bs, o :: l => { i := i, o := o, kd := kdOf P o, bef := b, dst := o.dst, looks := o.looksAt ops } :: platsGo P ops (i + 1) bs l
  | _, _, _ => []

/-- the order is one: everything comes, after what is before it, and after all effects ahead of it -/
def orderOk : Nat → Nat → List Plat → Bool
  | _, _, [] => true
  | done, effs, p :: l => subset p.bef done && (!done.testBit p.i && (subset effs p.bef &&
      orderOk (done ||| 2 ^ p.i) (bif p.kd.isEff then effs ||| 2 ^ p.i else effs) l))

def hasN (d : Nat) : List Nat → Bool
  | [] => false
  | x :: l => bif x.beq d then true else hasN d l

/-- who writes what another looks at is in an order with it -/
def pairOk (p q : Plat) : Bool :=
  match q.dst with
  | none => true
  | some d => (!hasN d p.looks || p.bef.testBit q.i || (q.kd.isEff && (q.bef.testBit p.i || p.i.beq q.i))) &&
      (p.i.beq q.i || (match p.dst with | some c => !c.beq d | none => true))

def pairsOk (l : List Plat) : Bool := l.all fun p => l.all fun q => pairOk p q

structure Item where
  p : Plat
  /-- reads that may come behind this effect -/
  chk : List Oper
  /-- what is written by those that may come behind this effect -/
  fl : List Nat

/-- those of the earlier ones that may come behind it -/
def floats (e : Plat) (front : List Plat) : List Plat := front.filter fun p => !p.kd.isEff && !e.bef.testBit p.i

/-- a read that may come behind the effect e (behind which stand those of front) does not look at what is written meanwhile -/
def floatOk (e : Plat) (front : List Plat) (p : Plat) : Bool :=
  (e :: front).all fun q => match q.dst with | none => true | some d => !hasN d p.looks || p.bef.testBit q.i

def itemsOf (front : List Plat) : List Plat → Option (List Item)
  | [] => some []
  | p :: l => match itemsOf (front ++ [p]) l with
    | some q => bif p.kd.isEff then
        let fl := floats p front
        bif fl.all (fun f => !f.kd.isRead || floatOk p front f) then some (⟨p, (fl.filter (·.kd.isRead)).map (·.o), fl.filterMap (·.dst)⟩ :: q) else none
      else some (⟨p, [], []⟩ :: q)
    | none => none

def noSel (o : Oper) : Bool := match o.op with | .select .. => false | _ => true

def planOf (P : Program) (ops : Array Oper) : Option (List Item) :=
  let os := ops.toList
  let ps := platsGo P ops 0 (befGo os []) os
  let l := orderOf ps os.length 0
  bif l.length.beq os.length && (ps.all fun p => hasN p.i (l.map (·.i))) && orderOk 0 0 l && pairsOk l && os.all noSel then itemsOf [] l else none

/-- where a region goes in the order of its list -/
def plainItems (ops : Array Oper) : List Item := ops.toList.map fun o => ⟨⟨0, o, .eff, 0, o.dst, []⟩, [], []⟩

/-! ## Running -/

def putC (dst : Option Nat) : AV → T → T :=
  match dst with
  | none => fun _ t => t
  | some d => let p := pathOf d; fun v t => t.put d p v

def guardC (ops : Array Oper) (g : Option (Nat × Bool)) : T → Option Bool :=
  match g with
  | none => fun _ => some true
  | some (j, w) => match (ops[j]?).bind (·.dst) with
    | some d => let p := pathOf d; fun t => match getT p t with
      | .bool b => some (bif w then b else !b)
      | .tup [] => some false
      | _ => none
    | none => fun _ => some false

/-- an operand that is no slot -/
def maskT : List Nat → T → T
  | [], t => t
  | d :: l, t => maskT l (t.put d (pathOf d) .undef)

section
variable (P : Program) (G : Glob) (callF : CF) (ops : Array Oper)

/-- a read done once more: with the same outcome? -/
def againC (o : Oper) : T → St → Bool :=
  let g := guardC ops o.guard
  let f := opC P G callF o
  match o.dst with
  | none => fun t s => match g t with
    | some b => bif b then (match f t s with | .val _ _ => true | _ => false) else true
    | none => false
  | some d => let p := pathOf d; fun t s => match g t with
    | some b => bif b then (match f t s with | .val v _ => AV.same v (getT p t) | _ => false) else true
    | none => false

def againsC : List Oper → T → St → Bool
  | [], _, _ => true
  | o :: l, t, s => againC P G callF ops o t s && againsC l t s

def goOn (chk : T → St → Bool) (t : T) (s : St) : Ex := bif chk t s then .mk .normal t s else .fail

def runEff (f : OpF) (put : AV → T → T) (chk : T → St → Bool) (fl : List Nat) : K := fun t s =>
  match f t s with
  | .val v s => goOn chk (put v t) s
  | .skip s => goOn chk (put (.tup []) t) s
  | .dfr g args s => goOn chk (put (.tup []) { t with ds := (g, args) :: t.ds }) s
  | .panic v s => .mk (.panic v) (maskT fl t) s
  | .fail => .fail

def runPlain (f : OpF) (put : AV → T → T) : K := fun t s =>
  match f t s with
  | .val v s => .mk .normal (put v t) s
  | _ => .fail

def runGuard (g : T → Option Bool) (put : AV → T → T) (k : K) : K := fun t s =>
  match g t with
  | some b => bif b then k t s else .mk .normal (put (.tup []) t) s
  | none => .fail

def itemC (it : Item) : K :=
  let k := bif it.p.kd.isEff then runEff (opC P G callF it.p.o) (putC it.p.dst) (againsC P G callF ops it.chk) it.fl
    else runPlain (opC P G callF it.p.o) (putC it.p.dst)
  match it.p.o.guard with
  | none => k
  | some g => runGuard (guardC ops (some g)) (putC it.p.dst) k

def doneC : K := fun t s => .mk .normal t s
def thenC (a b : K) : K := fun t s => match a t s with
  | .mk o t s => match o with | .normal => b t s | o => .mk o t s
  | .fail => .fail

def itemsC : List Item → K
  | [] => doneC
  | it :: l => thenC (itemC P G callF ops it) (itemsC l)

def regionC (draw : Bool) : K :=
  bif draw then match planOf P ops with | some l => itemsC P G callF ops l | none => fun _ _ => .fail
  else itemsC P G callF ops (plainItems ops)
end

def loopN (body : K) : Nat → K
  | 0 => fun _ _ => .fail
  | n + 1 => thenC body (loopN body n)

def condC (c : T → AV) (a b : K) : K := fun t s => match c t with | .bool u => bif u then a t s else b t s | _ => .fail
def blockC (id : Nat) (c : K) : K := fun t s => match c t s with
  | .mk o t s => match o with | .exit i => .mk (bif i.beq id then .normal else .exit i) t s | o => .mk o t s
  | .fail => .fail

section
variable (P : Program) (G : Glob) (callF : CF)

def execC (n : Nat) : Code → K
  | .skip => doneC
  | .region _ ops draw => regionC P G callF ops draw
  | .seq a b => thenC (execC n a) (execC n b)
  | .cond c a b => condC (evC G c) (execC n a) (execC n b)
  | .block id c => blockC id (execC n c)
  | .loop c => loopN (execC n c) n
  | .exit id => fun t s => .mk (.exit id) t s
  | .ret => fun t s => .mk .ret t s
  | .label _ => doneC
  | _ => fun _ _ => .fail

def resOf (rv : ResultVar) : T → St → Option AV :=
  match rv with
  | .tmp i => let p := pathOf i; fun t _ => some (getT p t)
  | .cell a ty => let p := pathOf a; match shapeT P ty with
    | some (some n) => fun t s => match cellsAt n (getT p t) s with | some l => some (.agg l) | none => none
    | some none => fun t s => cell1 (getT p t) s
    | none => fun _ _ => none

def resultsC : List ResultVar → T → St → Option (List AV)
  | [], _, _ => some []
  | r :: rs, t, s => match resOf P r t s, resultsC rs t s with
    | some v, some q => some (v :: q)
    | _, _ => none

def oneC (l : List AV) : AV := match l with | [v] => v | vs => .tup vs

def setArgs : List AV → Nat → Tr AV → Tr AV
  | [], _, t => t
  | v :: l, i, t => setArgs l (i + 1) (t.setP v (pathOf i))

/-- a deferred function that begins with 'recover', which yields rv, and ends -/
def callD (n : Nat) (f : FuncId) : AV → List AV → St → Option St :=
  match P.funcs[f]? with
  | some fn => match fn.body with
    | some (.seq (.region _ ops false) rest) => match ops.toList with
      | [r, o] => match r.op, r.guard, o.op, o.guard with
        | .call { callee := .builtin .recover, .. }, none, .assign x, none => bif fn.results.toList.isEmpty then
            let k := execC P G callF n rest
            let e := evC G x
            fun rv args s => bif Nat.ble args.length fn.ntmps then
              let t := putC r.dst rv ⟨setArgs args 0 .nil, fn.ntmps, [], .no⟩
              match k (putC o.dst (e t) t) s with
              | .mk out t s => match t.ds, out with
                | [], .normal | [], .ret => some s
                | _, _ => none
              | .fail => none
            else none
          else fun _ _ _ => none
        | _, _, _, _ => fun _ _ _ => none
      | [r] => match r.op, r.guard with
        | .call { callee := .builtin .recover, .. }, none => bif fn.results.toList.isEmpty then
            let k := execC P G callF n rest
            fun rv args s => bif Nat.ble args.length fn.ntmps then
              match k (putC r.dst rv ⟨setArgs args 0 .nil, fn.ntmps, [], .no⟩) s with
              | .mk out t s => match t.ds, out with
                | [], .normal | [], .ret => some s
                | _, _ => none
              | .fail => none
            else none
          else fun _ _ _ => none
        | _, _ => fun _ _ _ => none
      | _ => fun _ _ _ => none
    | _ => fun _ _ _ => none
  | none => fun _ _ _ => none

/-- what 'recover' yields -/
def rcOf : Out → AV
  | .panic v => v
  | _ => .nilifc

/-- a deferred function that asks nothing, behind what returns -/
def callE (n : Nat) (f : FuncId) : List AV → St → Option St :=
  match P.funcs[f]? with
  | some fn => match fn.body with
    | some body => bif fn.results.toList.isEmpty then
        let k := execC P G callF n body
        fun args s => bif Nat.ble args.length fn.ntmps then
          match k ⟨setArgs args 0 .nil, fn.ntmps, [], .no⟩ s with
          | .mk out t s => match t.ds, out with
            | [], .normal | [], .ret => some s
            | _, _ => none
          | .fail => none
        else none
      else fun _ _ => none
    | none => fun _ _ => none
  | none => fun _ _ => none

def callB (n : Nat) (f : FuncId) (o : Out) (args : List AV) (s : St) : Option St :=
  match callD P G callF n f (rcOf o) args s with
  | some s => some s
  | none => match o with
    | .ret => callE P G callF n f args s
    | _ => none

/-- the deferred calls, the last first: each ends a panic -/
def runDs (cd : FuncId → Out → List AV → St → Option St) : List (FuncId × List AV) → Out → St → Option (Out × St)
  | [], o, s => some (o, s)
  | (f, args) :: l, o, s => match cd f o args s with
    | some s => runDs cd l .ret s
    | none => none

def endC (rs : List ResultVar) (cd : FuncId → Out → List AV → St → Option St) (o : Out) (t : T) (s : St) : Res :=
  match runDs cd t.ds o s with
  | some (.panic v, s) => .panic v s
  | some (_, s) => match resultsC P rs t s with | some l => .ret (oneC l) s | none => .fail
  | none => .fail

def finC (rs : List ResultVar) (cd : FuncId → Out → List AV → St → Option St) (e : Ex) : Res :=
  match e with
  | .mk o t s => match o with
    | .normal | .ret => endC P rs cd .ret t s
    | .panic v => endC P rs cd (.panic v) t s
    | .exit _ => .fail
  | .fail => .fail

def bodyC (n : Nat) (fn : Option Func) : List AV → St → Res :=
  match fn with
  | some fn => match fn.body with
    | some body =>
      let k := execC P G callF n body
      let rs := fn.results.toList
      fun args s => bif Nat.ble args.length fn.ntmps then finC P rs (callB P G callF n) (k ⟨setArgs args 0 .nil, fn.ntmps, [], .no⟩ s) else .fail
    | none => fun _ _ => .fail
  | none => fun _ _ => .fail
end

/-- what is known of functions by other roads -/
abbrev Known := FuncId → Option (List AV → St → Res)

def callN (P : Program) (G : Glob) (X : Known) (loops : Nat) : Nat → CF
  | 0 => fun _ _ _ => .fail
  | n + 1 => fun f => match X f with
    | some h => h
    | none => bodyC P G (callN P G X loops n) loops P.funcs[f]?
end Go.Am
