/- Numbers and their numerals: the text of a number. -/
import Derived.Test.YtlibahklbbachaaGreatDoorAto1
import Derived.Test.YtlibahklbbachaaGreatDoorApp
set_option autoImplicit false
set_option maxRecDepth 100000
namespace Go.Am.Sto
open Go Go.Am Go.Proofs

/-- a text of one to nine bytes, taken apart -/
def cas9 {β : Type} (l : List Nat) (k : List Nat → Option β) : Option β := match l with
  | [] => none
  | a :: l => match l with
    | [] => k [a]
    | b :: l => match l with
      | [] => k [a, b]
      | c :: l => match l with
        | [] => k [a, b, c]
        | d :: l => match l with
          | [] => k [a, b, c, d]
          | e :: l => match l with
            | [] => k [a, b, c, d, e]
            | f :: l => match l with
              | [] => k [a, b, c, d, e, f]
              | g :: l => match l with
                | [] => k [a, b, c, d, e, f, g]
                | h :: l => match l with
                  | [] => k [a, b, c, d, e, f, g, h]
                  | i :: l => match l with
                    | [] => k [a, b, c, d, e, f, g, h, i]
                    | _ => none
theorem cas9_le {β : Type} (l : List Nat) (k : List Nat → Option β) : Le (cas9 l k) (k l) := by
  unfold cas9
  repeat' split
  all_goals first | exact .none _ | exact .refl _
/-- the same once more, under another name -/
def cas9' {β : Type} (l : List Nat) (k : List Nat → Option β) : Option β := match l with
  | [] => none
  | a :: l => match l with
    | [] => k [a]
    | b :: l => match l with
      | [] => k [a, b]
      | c :: l => match l with
        | [] => k [a, b, c]
        | d :: l => match l with
          | [] => k [a, b, c, d]
          | e :: l => match l with
            | [] => k [a, b, c, d, e]
            | f :: l => match l with
              | [] => k [a, b, c, d, e, f]
              | g :: l => match l with
                | [] => k [a, b, c, d, e, f, g]
                | h :: l => match l with
                  | [] => k [a, b, c, d, e, f, g, h]
                  | i :: l => match l with
                    | [] => k [a, b, c, d, e, f, g, h, i]
                    | _ => none
theorem cas9'_eq {β : Type} {k : List Nat → Option β} : ∀ {l : List Nat}, l ≠ [] → l.length ≤ 9 → cas9' l k = k l
  | [], h0, _ => absurd rfl h0
  | [_], _, _ => rfl
  | [_, _], _, _ => rfl
  | [_, _, _], _, _ => rfl
  | [_, _, _, _], _, _ => rfl
  | [_, _, _, _, _], _, _ => rfl
  | [_, _, _, _, _, _], _, _ => rfl
  | [_, _, _, _, _, _, _], _, _ => rfl
  | [_, _, _, _, _, _, _, _], _, _ => rfl
  | [_, _, _, _, _, _, _, _, _], _, _ => rfl
  | _ :: _ :: _ :: _ :: _ :: _ :: _ :: _ :: _ :: _ :: l, _, h => by simp only [List.length_cons] at h; omega

def sndC (neg : Bool) (cs : List AV) (n : Nat) (nl : Bool) : Bool := sndN neg cs n && (bif nonNil cs then !nl else true)
def snd35K {β : Type} (ar : List AV) (s : St) (kr : Res → Option β) : Option β := match ar with
  | [.agg [.bool neg, .lst cs n _ nl]] => ifK (sndC neg cs n nl) (kr (.ret (.bool true) s))
  | _ => none
def inR (n : Int) : Bool := leI 0 n && leI n 999999999
def itF (it : Int → List Nat) : List AV → Option AV
  | [.int .i64 n] => bif inR n then some (.str (it n)) else none
  | _ => none
def itK {β : Type} (it : Int → List Nat) (ar : List AV) (s : St) (kr : Res → Option β) : Option β := match ar with
  | [.int .i64 n] => ifK (inR n) (cas9 (it n) fun l => kr (.ret (.str l) s))
  | _ => none
def X60 (it : Int → List Nat) : Known := ((XN.add 35 (readX F35)).add 128 (pureX F128)).add 126 (pureX (itF it))
def Y60 {β : Type} (it : Int → List Nat) : KnownK β := ((KnownK.none.add 35 snd35K).add 128 (pureK F128)).add 126 (itK it)
def strR (l : List Nat) : Option AV := optK (fun r => some (.str r)) (bytesOf (bytesA l))
abbrev w64i (a : Int) : Int := IntKind.i64.wrap a
section
variable (it : Int → List Nat) (neg tt : Bool) (a b : Int)
theorem t60a (nl : Bool) : bodyY Tryz.prog G2 (X60 it) (Y60 it) 10 12 noLive Res.val? 10 Tryz.prog.funcs[60]? [.agg [.bool neg, .lst [] 0 tt nl]] St.empty = ifK (sndC neg [] 0 nl) (some (.str [48])) := by kernel_rfl
theorem t60b : bodyY Tryz.prog G2 (X60 it) (Y60 it) 10 12 noLive Res.val? 10 Tryz.prog.funcs[60]? [.agg [.bool neg, .lst [.int .u32 a] 1 tt false]] St.empty =
    ifK (sndC neg [.int .u32 a] 1 false) (byB neg (ifK (inR (w64i a)) (cas9' (it (w64i a)) fun l => strR ([45] ++ l))) (ifK (inR (w64i a)) (cas9' (it (w64i a)) fun l => strR l))) := by kernel_rfl
theorem t60c : bodyY Tryz.prog G2 (X60 it) (Y60 it) 10 12 noLive Res.val? 10 Tryz.prog.funcs[60]? [.agg [.bool neg, .lst [.int .u32 a, .int .u32 b] 2 tt false]] St.empty =
    ifK (sndC neg [.int .u32 a, .int .u32 b] 2 false) (byB neg (ifK (inR (w64i b)) (cas9' (it (w64i b)) fun h => ifK (inR (w64i a)) (cas9' (it (w64i a)) fun l => strR ([45] ++ h ++ List.replicate (9 - l.length) 48 ++ l))))
      (ifK (inR (w64i b)) (cas9' (it (w64i b)) fun h => ifK (inR (w64i a)) (cas9' (it (w64i a)) fun l => strR (h ++ List.replicate (9 - l.length) 48 ++ l))))) := by kernel_rfl
end
end Go.Am.Sto
