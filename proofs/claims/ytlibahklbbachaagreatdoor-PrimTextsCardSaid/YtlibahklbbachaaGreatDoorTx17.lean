import Derived.Test.YtlibahklbbachaaGreatDoorTx16
set_option autoImplicit false
set_option maxRecDepth 100000
set_option linter.unusedSimpArgs false
set_option linter.unusedVariables false
namespace Go.Am.Txt
open Go Go.Am Go.Proofs Go.Am.Sto
def or8 (a b : Int) : Int := IntKind.u8.wrap (Int.ofNat (BitVec.ofInt 8 a ||| BitVec.ofInt 8 b).toNat)
def shr (r : Int) (k : Nat) : Int := r.fdiv (2 ^ min k 32)
def part (r : Int) : AV := u8 (or8 128 (and8 (IntKind.u8.wrap r) 63))
def encT {β : Type} (c : Int) (put : List AV → Nat → Option β) : Option β :=
  let r := IntKind.i32.wrap c
  let u := IntKind.u32.wrap r
  let bad := put [u8 239, u8 191, u8 189] 3
  let p3 := put [u8 (or8 224 (IntKind.u8.wrap (shr r 12))), part (shr r 6), part r] 3
  let z := byB (!leI u 65535) (byB (leI u 1114111) (put [u8 (or8 240 (IntKind.u8.wrap (shr r 18))), part (shr r 12), part (shr r 6), part r] 4) bad) bad
  byB (leI u 127) (put [u8 (IntKind.u8.wrap r)] 1) (byB (leI u 2047) (put [u8 (or8 192 (IntKind.u8.wrap (shr r 6))), part r] 2) (byB (!leI 55296 u) p3 (byB (!leI u 57343) (byB (leI u 65535) p3 z) z)))
section
variable (sc : Int → Bool)
def D144 : Live := fun i => match i with | 0 => .pack [4, 7, 8, 9] | _ => .all
def X144 : Known := Known.none.add 42 (wX (F28v sc))
def Y144 {β : Type} : KnownK β := KnownK.none.add 42 (wK (F28v sc))
def t144 (out l : AV) (n i : Int) : T := tOf 22 [(4, out), (7, l), (8, .int .i64 n), (9, .int .i64 i)]
variable (H : HT) (cs : List AV) (n i j M : Nat) (t nl : Bool) (C : List AV)
abbrev end2 (l : AV) (e : Int) : Option AV := some (.tup [l, .int .i64 e])
end
end Go.Am.Txt
