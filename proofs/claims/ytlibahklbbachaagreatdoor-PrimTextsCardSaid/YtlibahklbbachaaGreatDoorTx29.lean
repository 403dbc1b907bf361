import Derived.Test.YtlibahklbbachaaGreatDoorTx23
import Derived.Test.YtlibahklbbachaaGreatDoorTx26
set_option autoImplicit false
set_option maxRecDepth 100000
set_option linter.unusedSimpArgs false
set_option linter.unusedVariables false
namespace Go.Am.Txt
open Go Go.Am Go.Proofs Go.Am.Sto
def sam (a b c e : Int) : Bool := bif eqI a c then (bif eqI b e then true else false) else false
def againV (a b : Int) : Bool := (eqI a a && (eqI b b && true)) && true
def D115 : Live := fun i => match i with | 0 => .pack [0, 4, 5, 36, 37] | _ => .all
def L115 (P : Program) (rounds : Nat) : T → St → Option R := runLoop P (GU H0) X1 Y1 5 8 D115 Res.meth? 100 115 (.pack [0, 4, 5, 36, 37]) 3 rounds
def b115 (P : Program) (d : Hid) (a b c e : Int) : Option R := bodyY P (GU H0) X1 Y1 5 8 D115 Res.meth? 100 P.funcs[115]? [.hptr 0, val a b, val c e] (St.one d)
def tQ (len i : Int) : T := tOf 58 [(0, .hptr 0), (4, .ptr 1 0), (5, .ptr 2 0), (36, .int .i64 len), (37, .int .i64 i)]
def stQ (d : Hid) (a b c e : Int) : St := ⟨3, ((Tr.nil.set 0 (.hid d)).set 1 (row0 1 29 (vI (a, b)))).set 2 (row0 2 29 (vI (c, e)))⟩
abbrev ret1 (d : Hid) (u : Bool) : Option R := some (.bool u, d)
section
variable (d : Hid) (a b c e len i : Int) (M : Nat)
theorem start115 : b115 Tryz.prog d a b c e = byB (sam a b c e) (ret1 d true) (byB (!eqI (kindOf d.rows a b) 5) (ret1 d false) (byB (!eqI (kindOf d.rows c e) 5) (ret1 d false) (ifK (againV c e) (byB (!eqI (lenOf d.rows a b) (lenOf d.rows c e)) (ret1 d false)
   (L115 Tryz.prog 100 (tQ (lenOf d.rows a b) 0) (stQ d a b c e)))))) := by kernel_rfl
theorem step115 : L115 Tryz.prog (M + 1) (tQ len i) (stQ d a b c e) = byB (!leI len i) (byB (!sam (getO d a b i).1.1 (getO d a b i).1.2 (getO d c e i).1.1 (getO d c e i).1.2) (ret1 d false) (L115 Tryz.prog M (tQ len (IntKind.i64.wrap (i + 1))) (stQ d a b c e))) (ret1 d true) := by kernel_rfl
end
def D99 : Live := fun i => match i with | 0 => .pack [0, 1, 12, 13] | _ => .all
def L99 (P : Program) (rounds : Nat) : T → St → Option AV := runLoop P (GU H0) .none .none 5 8 D99 Res.freshV? 5000 99 (.pack [0, 1, 12, 13]) 0 rounds
def b99 (P : Program) (l l2 : AV) : Option AV := bodyY P (GU H0) .none .none 5 8 D99 Res.freshV? 5000 P.funcs[99]? [l, l2] St.empty
def t99 (l l2 : AV) (len i : Int) : T := tOf 26 [(0, l), (1, l2), (12, .int .i64 len), (13, .int .i64 i)]
section
variable (cs cs2 : List AV) (m n i : Nat) (t t2 nl nl2 : Bool) (M : Nat)
theorem start99 : b99 Tryz.prog (.lst cs m t nl) (.lst cs2 n t2 nl2) = byB (!eqI m n) (some (.bool false)) (L99 Tryz.prog 5000 (t99 (.lst cs m t nl) (.lst cs2 n t2 nl2) m 0) St.empty) := by kernel_rfl
theorem step99 : L99 Tryz.prog (M + 1) (t99 (.lst cs m t nl) (.lst cs2 n t2 nl2) m (.ofNat i)) St.empty = byB (!leI (.ofNat m) (.ofNat i))
  (ifK (Nat.blt i m && nonNil cs) (opt2 (fun a b => ifK (Nat.blt i n && nonNil cs2) (opt2 (fun c e => byB (!sam a b c e) (some (.bool false)) (ifK (AV.under 0 (.lst cs m t nl)) (ifK (AV.under 0 (.lst cs2 n t2 nl2)) (L99 Tryz.prog M (t99 (.lst cs m t nl) (.lst cs2 n t2 nl2) m (IntKind.i64.wrap (.ofNat i + 1))) St.empty))))
    (cutN 2 (i * 2) cs2))) (cutN 2 (i * 2) cs))) (some (.bool true)) := by kernel_rfl
end
end Go.Am.Txt
