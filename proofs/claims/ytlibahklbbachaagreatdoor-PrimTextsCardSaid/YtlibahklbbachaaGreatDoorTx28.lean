import Derived.Test.YtlibahklbbachaaGreatDoorTx22
import Derived.Test.YtlibahklbbachaaGreatDoorTx10
import Derived.Test.YtlibahklbbachaaGreatDoorTx26
import Derived.Test.YtlibahklbbachaaGreatDoorTx27
set_option autoImplicit false
set_option maxRecDepth 100000
set_option linter.unusedSimpArgs false
set_option linter.unusedVariables false
namespace Go.Am.Txt
open Go Go.Am Go.Proofs Go.Am.Sto
section
variable (sn sc sb : Bool → List AV → Nat → Bool) (sv : Bool → List AV → Nat → Int)
def X114 : Known := ((((Known.none.add 35 (zsX (F35n sn))).add 36 (zsX (F36n sc sb sv))).add 83 (methX F83)).add 92 (methX F92)).add 79 (methX F79)
def Y114 {β : Type} : KnownK β := ((((KnownK.none.add 35 (zsK (F35n sn))).add 36 (zsK (F36n sc sb sv))).add 83 (methK F83)).add 92 (methK F92)).add 79 (methK F79)
def D114 : Live := fun i => match i with | 0 => .packR [0, 3, 4, 6, 45, 46] 6 3 | 999 => .pack [] | _ => .all
def b114 (M : Nat) (P : Program) (d : Hid) (b : Int) : Option R := bodyY P (GU H0) (X114 sn sc sb sv) (Y114 sn sc sb sv) 5 8 D114 Res.meth? M P.funcs[114]? [.hptr 0, val 7 b] (St.one d)
def L114 (M : Nat) (P : Program) (rounds : Nat) : T → St → Option R := runLoop P (GU H0) (X114 sn sc sb sv) (Y114 sn sc sb sv) 5 8 D114 Res.meth? M 114 (.packR [0, 3, 4, 6, 45, 46] 6 3) 1 rounds
def tN (len i : Int) : T := tOf 115 [(0, .hptr 0), (3, .ptr 1 0), (4, .ptr 2 0), (6, .ptr 3 0), (45, .int .i64 len), (46, .int .i64 i)]
def trN (d : Hid) (b : Int) (g : Bool) (l : AV) : Tr AObj := (((Tr.nil.set 0 (.hid d)).set 1 (row0 1 29 [.int .i64 7, .int .i64 b])).set 2 (row0 2 47 [.bool false, mt])).set 3 (row0 3 47 [.bool g, l])
def stN0 (d : Hid) (b : Int) (g : Bool) : St := ⟨4, trN d b g mt⟩
def stN1 (d : Hid) (b : Int) (g : Bool) (j : Nat) (C : List AV) : St := ⟨5, (trN d b g (.sl 4 0 (j + 1) 1 false)).set 4 (.row (rowB 4 75 C))⟩
def badN (d : Hid) : Option R := some (.tup [.agg [.bool false, .lst [] 0 false true], .int .i64 10], d)
def numE (g : Bool) (v : List AV) (j : Nat) (d : Hid) : Option R := some (.tup [.agg [.bool g, .lst v (j + 1) false false], .int .i64 0], d)
variable (d : Hid) (M N m k j : Nat) (b len : Int) (g : Bool) (C : List AV)
theorem start114b : b114 sn sc sb sv M Tryz.prog d b = byB (!eqI (kindOf d.rows 7 b) 5) (badN d) (byB (!leI 3 (lenOf d.rows 7 b)) (badN d) (L114 sn sc sb sv M Tryz.prog M (tN (lenOf d.rows 7 b) 0) (stN0 d b false))) := by kernel_rfl
abbrev slotT (d : Hid) (b i : Int) (k : Int → Option R) : Option R := byB (!eqI (getO d 7 b i).1.1 4) (badN d) (byB (!leI 0 (getO d 7 b i).1.2) (badN d) (byB (leI 1000000000 (getO d 7 b i).1.2) (badN d) (k (getO d 7 b i).1.2)))
theorem step114a : L114 sn sc sb sv M Tryz.prog (N + 1) (tN (.ofNat (m + 3)) 0) (stN0 d b false) =
    slotT d b 0 fun x => byB (!leI x 1) (badN d) (L114 sn sc sb sv M Tryz.prog N (tN (.ofNat (m + 3)) 1) (stN0 d b (eqI x 1))) := by kernel_rfl
theorem step114b : L114 sn sc sb sv M Tryz.prog (N + 1) (tN (.ofNat (m + 3)) 1) (stN0 d b g) =
    slotT d b 1 fun x => L114 sn sc sb sv M Tryz.prog N (tN (.ofNat (m + 3)) 2) (stN1 d b g 0 [.int .u32 (IntKind.u32.wrap x)]) := by kernel_rfl
abbrev finN (g : Bool) (j : Nat) (C : List AV) (d : Hid) : Option R := optK (fun v => ifK (Nat.blt 0 (j + 1) && AV.flats v) (numE g v j d)) (cutN ((j + 1) * 1) 0 C)
theorem step114c : L114 sn sc sb sv M Tryz.prog (N + 1) (tN len (.ofNat (k + 1))) (stN1 d b g j C) = byB (!leI len (.ofNat (k + 1)))
    (slotT d b (.ofNat (k + 1)) fun x => ifK (Nat.ble (j + 1 + 1) 1073741824) (optK (fun old => ifK (newest C.length ((j + 1) * 1)) (optK (fun v => ifK (nonNil v && AV.plains v)
      (L114 sn sc sb sv M Tryz.prog N (tN len (IntKind.i64.wrap (.ofNat (k + 1) + 1))) (stN1 d b g (j + 1) v))) (cutN ((j + 1 + 1) * 1) 0 (old ++ [.int .u32 (IntKind.u32.wrap x)])))) (cutN ((j + 1) * 1) 0 C)))
    (optK (fun v => ifK (AV.plains v) (ifK (AV.plains [.agg [.bool g, .lst v (j + 1) false false]]) (ifK (sc g v (j + 1)) (optK (fun u => ifK (AV.plains u) (ifK (AV.plains [.agg [.bool g, .lst u (j + 1) false false]]) (ifK (sn g u (j + 1))
      (byB (sb g v (j + 1)) (byB (!leI (sv g v (j + 1)) (-1000000000000000000)) (byB (!leI 1000000000000000000 (sv g v (j + 1))) (badN d) (finN g j C d)) (finN g j C d)) (finN g j C d))))) (cutN ((j + 1) * 1) 0 C))))) (cutN ((j + 1) * 1) 0 C)) := by kernel_rfl
end
end Go.Am.Txt
