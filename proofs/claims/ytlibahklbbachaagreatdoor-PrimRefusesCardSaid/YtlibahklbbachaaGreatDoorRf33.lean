import Derived.Test.YtlibahklbbachaaGreatDoorRf29
import Derived.Test.YtlibahklbbachaaGreatDoorRf20
set_option autoImplicit false
set_option maxRecDepth 100000
set_option linter.unusedSimpArgs false
set_option linter.unusedVariables false
set_option maxHeartbeats 8000000
namespace Go.Am.Sto
open Go Go.Am Go.Proofs
section
variable (isn : Int → Int → Bool) (ng : Int → Bool) (ls : Int → List AV) (ln : Int → Nat) (le : Int → Bool)
variable (ad : Bool → List AV → Nat → Bool → Bool → Bool → List AV → Nat → Bool → Bool → Bool) (ag an : Bool → List AV → Nat → Bool → Bool → Bool → List AV → Nat → Bool → Bool → Bool) (ar : Bool → List AV → Nat → Bool → Bool → Bool → List AV → Nat → Bool → Bool → List AV)
 (ak : Bool → List AV → Nat → Bool → Bool → Bool → List AV → Nat → Bool → Bool → Nat) (ae : Bool → List AV → Nat → Bool → Bool → Bool → List AV → Nat → Bool → Bool → Int)
variable (ic : Hid → Bool → List AV → Nat → Bool → Bool) (it iv ie : Hid → Bool → List AV → Nat → Bool → Int) (iD : Hid → Bool → List AV → Nat → Bool → Hid)
def F18v (d : Hid) : List AV → Option (Bool × AV × Hid)
 | [.hptr 0, .agg [.bool g, .lst r k _ nl]] => some (ic d g r k nl, .tup [.agg [.int .i64 (it d g r k nl), .int .i64 (iv d g r k nl)], .int .i64 (ie d g r k nl)], iD d g r k nl)
 | _ => none
def F76v (cc : Bool → List AV → Nat → Bool → Bool → Bool → List AV → Nat → Bool → Bool → Bool) (cv : Bool → List AV → Nat → Bool → Bool → Bool → List AV → Nat → Bool → Bool → Int) : List AV → Option (Bool × AV)
 | [.agg [.bool ng, .lst a n t1 l1], .agg [.bool mg, .lst b m t2 l2]] => some (cc ng a n t1 l1 mg b m t2 l2, .int .i64 (cv ng a n t1 l1 mg b m t2 l2))
 | _ => none
def XB : Known := (X3.add 22 (pureX FAr)).add 114 (methX (m2F (numZ isn ng ls ln le)))
def YB {β : Type} : KnownK β := (Y3.add 22 (pureK FAr)).add 114 (methK2 (numZ isn ng ls ln le))
def XC (cc : Bool → List AV → Nat → Bool → Bool → Bool → List AV → Nat → Bool → Bool → Bool) (cv : Bool → List AV → Nat → Bool → Bool → Bool → List AV → Nat → Bool → Bool → Int) : Known := (XB isn ng ls ln le).add 76 (zX (F76v cc cv))
def YC {β : Type} (cc : Bool → List AV → Nat → Bool → Bool → Bool → List AV → Nat → Bool → Bool → Bool) (cv : Bool → List AV → Nat → Bool → Bool → Bool → List AV → Nat → Bool → Bool → Int) : KnownK β := (YB isn ng ls ln le).add 76 (zK (F76v cc cv))
def XA (f : FuncId) : Known := ((XB isn ng ls ln le).add 18 (methX (F18v ic it iv ie iD))).add f (wX (F70v ad ag an ar ak ae))
def YA {β : Type} (f : FuncId) : KnownK β := ((YB isn ng ls ln le).add 18 (methK (F18v ic it iv ie iD))).add f (wK (F70v ad ag an ar ak ae))
def F69 : List AV → Option (Bool × AV)
 | [.int .i64 n] => some (eqI n 1, .agg [.bool false, .lst [.int .u32 1] 1 false false])
 | _ => none
def XM (f : FuncId) : Known := (((XB isn ng ls ln le).add 18 (methX (F18v ic it iv ie iD))).add f (zX (F70v ad ag an ar ak ae))).add 69 (zX F69)
def YM {β : Type} (f : FuncId) : KnownK β := (((YB isn ng ls ln le).add 18 (methK (F18v ic it iv ie iD))).add f (zK (F70v ad ag an ar ak ae))).add 69 (zK F69)
def apA (P : Program) (f : FuncId) (tt : Bool) (d : Hid) (op : Int) (cs : List AV) (n : Nat) : Option R := bodyY P G2 (XA isn ng ls ln le ad ag an ar ak ae ic it iv ie iD f) (YA isn ng ls ln le ad ag an ar ak ae ic it iv ie iD f) 90 20 noLive Res.meth? 100 P.funcs[10]? [.hptr 0, .int .i64 op, .lst cs n tt false] (St.one d)
def apM (P : Program) (f : FuncId) (tt : Bool) (d : Hid) (op : Int) (cs : List AV) (n : Nat) : Option R := bodyY P G2 (XM isn ng ls ln le ad ag an ar ak ae ic it iv ie iD f) (YM isn ng ls ln le ad ag an ar ak ae ic it iv ie iD f) 90 20 noLive Res.meth? 100 P.funcs[10]? [.hptr 0, .int .i64 op, .lst cs n tt false] (St.one d)
def apC (P : Program) (cc : Bool → List AV → Nat → Bool → Bool → Bool → List AV → Nat → Bool → Bool → Bool) (cv : Bool → List AV → Nat → Bool → Bool → Bool → List AV → Nat → Bool → Bool → Int) (tt : Bool) (d : Hid) (op : Int) (cs : List AV) (n : Nat) : Option R := bodyY P G2 (XC isn ng ls ln le cc cv) (YC isn ng ls ln le cc cv) 90 20 noLive Res.meth? 100 P.funcs[10]? [.hptr 0, .int .i64 op, .lst cs n tt false] (St.one d)
abbrev nA (g : Bool) (r : List AV) (k : Nat) (t nl : Bool) : AV := .agg [.bool g, .lst r k t nl]
def giveT (d : Hid) (g : Bool) (r : List AV) (k : Nat) (t nl : Bool) : Option R := ifK (AV.plain (nA g r k t nl)) (ifK (ic d g r k nl) (byB (!eqI (ie d g r k nl) 0) (gV (iD d g r k nl) 0 0 (ie d g r k nl)) (gV (iD d g r k nl) (it d g r k nl) (iv d g r k nl) 0)))
def foldT (d : Hid) : List Int → Bool → List AV → Nat → Bool → Bool → Option R
 | [], g, r, k, t, nl => giveT ic it iv ie iD d g r k t nl
 | z :: l, g, r, k, t, nl => ifK (AV.plains [nA g r k t nl, nA (ng z) (ls z) (ln z) false (le z)]) (ifK (ad g r k t nl (ng z) (ls z) (ln z) false (le z)) (byB (!eqI (ae g r k t nl (ng z) (ls z) (ln z) false (le z)) 0) (gV d 0 0 (ae g r k t nl (ng z) (ls z) (ln z) false (le z)))
  (foldT d l (ag g r k t nl (ng z) (ls z) (ln z) false (le z)) (ar g r k t nl (ng z) (ls z) (ln z) false (le z)) (ak g r k t nl (ng z) (ls z) (ln z) false (le z)) false (an g r k t nl (ng z) (ls z) (ln z) false (le z)))))
def foldM (d : Hid) : List Int → Bool → List AV → Nat → Bool → Bool → Option R
 | [], g, r, k, t, nl => giveT ic it iv ie iD d g r k t nl
 | z :: l, g, r, k, t, nl => ifK (AV.plain (nA g r k t nl)) (ifK (AV.plain (nA (ng z) (ls z) (ln z) false (le z))) (ifK (ad g r k t nl (ng z) (ls z) (ln z) false (le z)) (byB (!eqI (ae g r k t nl (ng z) (ls z) (ln z) false (le z)) 0) (gV d 0 0 (ae g r k t nl (ng z) (ls z) (ln z) false (le z)))
  (foldM d l (ag g r k t nl (ng z) (ls z) (ln z) false (le z)) (ar g r k t nl (ng z) (ls z) (ln z) false (le z)) (ak g r k t nl (ng z) (ls z) (ln z) false (le z)) false (an g r k t nl (ng z) (ls z) (ln z) false (le z))))))
def cmpsT (cc : Bool → List AV → Nat → Bool → Bool → Bool → List AV → Nat → Bool → Bool → Bool) (cv : Bool → List AV → Nat → Bool → Bool → Bool → List AV → Nat → Bool → Bool → Int) (d : Hid) (t : Int → Bool) : List Int → Option R
 | [] => none
 | z :: l => match l with
  | [] => gV d 1 0 0
  | w :: _ => ifK (AV.plain (nA (ng z) (ls z) (ln z) false (le z))) (ifK (AV.plain (nA (ng w) (ls w) (ln w) false (le w))) (ifK (cc (ng z) (ls z) (ln z) false (le z) (ng w) (ls w) (ln w) false (le w)) (byB (t (cv (ng z) (ls z) (ln z) false (le z) (ng w) (ls w) (ln w) false (le w))) (cmpsT cc cv d t l) (gV d 2 0 0))))
def numsT (d : Hid) (cs : List AV) (k : List Int → Option R) : Nat → Nat → List Int → Option R
 | 0, _, acc => k acc
 | n + 1, i, acc => ifK (nonNil cs) (opt2 (fun a z => ifK (kz d a z) (byB (isn a z) (numsT d cs k n (i + 1) (acc ++ [z])) (gV d 0 0 10))) (cutN 2 (i * 2) cs))
variable (tt : Bool) (d : Hid) (cs : List AV)
def ask0 (P : Program) (n : Nat) : Prop := apA isn ng ls ln le ad ag an ar ak ae ic it iv ie iD P 70 tt d 0 cs n = ifK (AV.plain (.lst cs n tt false)) (ifK (okp d cs n) (numsT isn d cs (fun l => foldT ng ls ln le ad ag an ar ak ae ic it iv ie iD d l false [] 0 true true) n 0 []))
theorem a0 : ∀ n, n ≤ 30 → 1 ≤ n → ask0 isn ng ls ln le ad ag an ar ak ae ic it iv ie iD tt d cs Tryz.prog n
 | 0, _, h => absurd h (by omega)
 | 1, _, _ => by unfold ask0; as_aux_lemma => kernel_rfl
 | 2, _, _ => by unfold ask0; as_aux_lemma => kernel_rfl
 | 3, _, _ => by unfold ask0; as_aux_lemma => kernel_rfl
 | 4, _, _ => by unfold ask0; as_aux_lemma => kernel_rfl
 | 5, _, _ => by unfold ask0; as_aux_lemma => kernel_rfl
 | 6, _, _ => by unfold ask0; as_aux_lemma => kernel_rfl
 | 7, _, _ => by unfold ask0; as_aux_lemma => kernel_rfl
 | 8, _, _ => by unfold ask0; as_aux_lemma => kernel_rfl
 | 9, _, _ => by unfold ask0; as_aux_lemma => kernel_rfl
 | 10, _, _ => by unfold ask0; as_aux_lemma => kernel_rfl
 | 11, _, _ => by unfold ask0; as_aux_lemma => kernel_rfl
 | 12, _, _ => by unfold ask0; as_aux_lemma => kernel_rfl
 | 13, _, _ => by unfold ask0; as_aux_lemma => kernel_rfl
 | 14, _, _ => by unfold ask0; as_aux_lemma => kernel_rfl
 | 15, _, _ => by unfold ask0; as_aux_lemma => kernel_rfl
 | 16, _, _ => by unfold ask0; as_aux_lemma => kernel_rfl
 | 17, _, _ => by unfold ask0; as_aux_lemma => kernel_rfl
 | 18, _, _ => by unfold ask0; as_aux_lemma => kernel_rfl
 | 19, _, _ => by unfold ask0; as_aux_lemma => kernel_rfl
 | 20, _, _ => by unfold ask0; as_aux_lemma => kernel_rfl
 | 21, _, _ => by unfold ask0; as_aux_lemma => kernel_rfl
 | 22, _, _ => by unfold ask0; as_aux_lemma => kernel_rfl
 | 23, _, _ => by unfold ask0; as_aux_lemma => kernel_rfl
 | 24, _, _ => by unfold ask0; as_aux_lemma => kernel_rfl
 | 25, _, _ => by unfold ask0; as_aux_lemma => kernel_rfl
 | 26, _, _ => by unfold ask0; as_aux_lemma => kernel_rfl
 | 27, _, _ => by unfold ask0; as_aux_lemma => kernel_rfl
 | 28, _, _ => by unfold ask0; as_aux_lemma => kernel_rfl
 | 29, _, _ => by unfold ask0; as_aux_lemma => kernel_rfl
 | 30, _, _ => by unfold ask0; as_aux_lemma => kernel_rfl
 | n + 31, h, _ => absurd h (by omega)
end
end Go.Am.Sto
