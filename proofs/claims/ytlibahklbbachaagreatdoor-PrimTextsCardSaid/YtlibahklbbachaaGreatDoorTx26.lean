import Derived.Test.YtlibahklbbachaaGreatDoorTx24
import Derived.Test.YtlibahklbbachaaGreatDoorTx25
set_option autoImplicit false
set_option maxRecDepth 100000
set_option linter.unusedSimpArgs false
set_option linter.unusedVariables false
namespace Go.Am.Txt
open Go Go.Am Go.Proofs Go.Am.Sto
section
variable (g : List AV → Nat → Bool) (ls : List AV → List AV) (ln : List AV → Nat) (e : List AV → Bool)
def D34 : Live := fun i => match i with | 3 => .pack [2, 4, 11, 92, 93, 94] | _ => .all
def L34 (P : Program) (rounds : Nat) : T → St → Option R := runLoopN P (GU H0) (X95 g ls ln e) (Y95 g ls ln e) 5 8 D34 1 Res.meth? 2500 34 (.pack [2, 4, 11, 92, 93, 94]) 4 rounds
def datS (bs : List Nat) : AV := .agg [.int .i64 5, .str bs, .bool false, mt, mt, .int .i64 0]
def b34 (P : Program) (d : Hid) (bs : List Nat) : Option R := bodyY P (GU H0) (X95 g ls ln e) (Y95 g ls ln e) 5 8 D34 Res.meth? 2500 P.funcs[34]? [.agg [.hptr 0], datS bs] (St.one d)
def t34 (out l : AV) (n i : Int) : T := tOf 139 [(2, .ptr 1 0), (4, .ptr 3 0), (11, out), (92, l), (93, .int .i64 n), (94, .int .i64 i)]
def row0 (r ty : Nat) (vals : List AV) : AObj := .row { vals := vals, root := r, pos := 0, ep := 0, fep := 0, ext := vals.length, solo := true, ty := ty }
def tr34 (d : Hid) (bs : List Nat) : Tr AObj := (((Tr.nil.set 0 (.hid d)).set 1 (row0 1 80 [.hptr 0])).set 2 (row0 2 55 [.int .i64 5, .str bs, .bool false, mt, mt, .int .i64 0])).set 3 (row0 3 29 [.int .i64 0, .int .i64 0])
def st0D (d : Hid) (bs : List Nat) : St := ⟨4, tr34 d bs⟩
def stD (d : Hid) (bs : List Nat) (C : List AV) : St := ⟨5, (tr34 d bs).set 4 (.row (rowB 4 29 C))⟩
variable (d : Hid) (bs : List Nat) (tt nl : Bool) (M : Nat) (cs : List AV) (n i j : Nat) (C : List AV)
theorem start34 : b34 g ls ln e Tryz.prog d bs = ifK (AV.plains [.lst (bytesA bs) bs.length false false]) (ifK (g (bytesA bs) bs.length) (L34 g ls ln e Tryz.prog 2500 (t34 mt (.lst (ls (bytesA bs)) (ln (bytesA bs)) (e (bytesA bs)) (e (bytesA bs))) (ln (bytesA bs)) 0) (st0D d bs))) := by kernel_rfl
theorem step34a : L34 g ls ln e Tryz.prog (M + 1) (t34 mt (.lst cs n tt nl) n (.ofNat i)) (st0D d bs) = byB (!leI (.ofNat n) (.ofNat i))
    (ifK (Nat.blt i n && nonNil cs) (opt1 .i64 (fun c => ifK (AV.under 4 (.lst cs n tt nl)) (L34 g ls ln e Tryz.prog M (t34 (.sl 4 0 1 2 false) (.lst cs n tt nl) n (IntKind.i64.wrap (.ofNat i + 1))) (stD d bs [.int .i64 5, .int .i64 c]))) (cs[i * 1]?)))
    (madeT d []) := by kernel_rfl
theorem step34b : L34 g ls ln e Tryz.prog (M + 1) (t34 (.sl 4 0 (j + 1) 2 false) (.lst cs n tt nl) n (.ofNat i)) (stD d bs C) = byB (!leI (.ofNat n) (.ofNat i))
    (ifK (Nat.blt i n && nonNil cs) (opt1 .i64 (fun c => ifK (Nat.ble (j + 1 + 1) 1073741824) (optK (fun old => ifK (newest C.length ((j + 1) * 2)) (optK (fun v => ifK (nonNil v && AV.plains v) (ifK (AV.under 4 (.lst cs n tt nl))
      (L34 g ls ln e Tryz.prog M (t34 (.sl 4 0 (j + 1 + 1) 2 false) (.lst cs n tt nl) n (IntKind.i64.wrap (.ofNat i + 1))) (stD d bs v)))) (cutN ((j + 1 + 1) * 2) 0 (old ++ [.int .i64 5, .int .i64 c])))) (cutN ((j + 1) * 2) 0 C))) (cs[i * 1]?)))
    (optK (fun v => ifK (Nat.blt 0 (j + 1) && AV.plains v) (mkT d v (j + 1))) (cutN ((j + 1) * 2) 0 C)) := by kernel_rfl
end
end Go.Am.Txt
