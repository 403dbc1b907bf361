import Derived.Test.YtlibahklbbachaaGreatDoorRf16
import Derived.Test.YtlibahklbbachaaGreatDoorRf23
set_option autoImplicit false
set_option maxRecDepth 100000
set_option linter.unusedSimpArgs false
set_option linter.unusedVariables false
namespace Go.Am.Sto
open Go Go.Am Go.Proofs
def F35w (sn : Bool → List AV → Nat → Bool) : List AV → Option (Bool × AV)
 | [.agg [.bool neg, .lst cs n _ _]] => some (sn neg cs n, .bool true)
 | _ => none
def casJ {β : Type} (j : Nat) (l : List Nat) (k : List Nat → Option β) : Option β := match j with
 | 1 => match l with | [] => none | a :: l => match l with | [] => k [a] | _ :: _ => none
 | 2 => match l with | [] => none | a :: l => match l with | [] => none | b :: l => match l with | [] => k [a, b] | _ :: _ => none
 | 3 => match l with | [] => none | a :: l => match l with | [] => none | b :: l => match l with | [] => none | c :: l => match l with | [] => k [a, b, c] | _ :: _ => none
 | 4 => match l with | [] => none | a :: l => match l with | [] => none | b :: l => match l with | [] => none | c :: l => match l with | [] => none | d :: l => match l with | [] => k [a, b, c, d] | _ :: _ => none
 | 5 => match l with | [] => none | a :: l => match l with | [] => none | b :: l => match l with | [] => none | c :: l => match l with | [] => none | d :: l => match l with | [] => none | e :: l => match l with | [] => k [a, b, c, d, e] | _ :: _ => none
 | 6 => match l with | [] => none | a :: l => match l with | [] => none | b :: l => match l with | [] => none | c :: l => match l with | [] => none | d :: l => match l with | [] => none | e :: l => match l with | [] => none | f :: l => match l with | [] => k [a, b, c, d, e, f] | _ :: _ => none
 | 7 => match l with | [] => none | a :: l => match l with | [] => none | b :: l => match l with | [] => none | c :: l => match l with | [] => none | d :: l => match l with | [] => none | e :: l => match l with | [] => none | f :: l => match l with | [] => none | g :: l => match l with | [] => k [a, b, c, d, e, f, g] | _ :: _ => none
 | 8 => match l with | [] => none | a :: l => match l with | [] => none | b :: l => match l with | [] => none | c :: l => match l with | [] => none | d :: l => match l with | [] => none | e :: l => match l with | [] => none | f :: l => match l with | [] => none | g :: l => match l with | [] => none | h :: l => match l with | [] => k [a, b, c, d, e, f, g, h] | _ :: _ => none
 | 9 => match l with | [] => none | a :: l => match l with | [] => none | b :: l => match l with | [] => none | c :: l => match l with | [] => none | d :: l => match l with | [] => none | e :: l => match l with | [] => none | f :: l => match l with | [] => none | g :: l => match l with | [] => none | h :: l => match l with | [] => none | i :: l => match l with | [] => k [a, b, c, d, e, f, g, h, i] | _ :: _ => none
 | _ => none
theorem casJ_le {β : Type} (j : Nat) (l : List Nat) (k : List Nat → Option β) : Le (casJ j l k) (k l) := by
 unfold casJ
 repeat' split
 all_goals first | exact .none _ | exact .refl _
def casJ' {β : Type} (j : Nat) (l : List Nat) (k : List Nat → Option β) : Option β := match j with
 | 1 => match l with | [] => none | a :: l => match l with | [] => k [a] | _ :: _ => none
 | 2 => match l with | [] => none | a :: l => match l with | [] => none | b :: l => match l with | [] => k [a, b] | _ :: _ => none
 | 3 => match l with | [] => none | a :: l => match l with | [] => none | b :: l => match l with | [] => none | c :: l => match l with | [] => k [a, b, c] | _ :: _ => none
 | 4 => match l with | [] => none | a :: l => match l with | [] => none | b :: l => match l with | [] => none | c :: l => match l with | [] => none | d :: l => match l with | [] => k [a, b, c, d] | _ :: _ => none
 | 5 => match l with | [] => none | a :: l => match l with | [] => none | b :: l => match l with | [] => none | c :: l => match l with | [] => none | d :: l => match l with | [] => none | e :: l => match l with | [] => k [a, b, c, d, e] | _ :: _ => none
 | 6 => match l with | [] => none | a :: l => match l with | [] => none | b :: l => match l with | [] => none | c :: l => match l with | [] => none | d :: l => match l with | [] => none | e :: l => match l with | [] => none | f :: l => match l with | [] => k [a, b, c, d, e, f] | _ :: _ => none
 | 7 => match l with | [] => none | a :: l => match l with | [] => none | b :: l => match l with | [] => none | c :: l => match l with | [] => none | d :: l => match l with | [] => none | e :: l => match l with | [] => none | f :: l => match l with | [] => none | g :: l => match l with | [] => k [a, b, c, d, e, f, g] | _ :: _ => none
 | 8 => match l with | [] => none | a :: l => match l with | [] => none | b :: l => match l with | [] => none | c :: l => match l with | [] => none | d :: l => match l with | [] => none | e :: l => match l with | [] => none | f :: l => match l with | [] => none | g :: l => match l with | [] => none | h :: l => match l with | [] => k [a, b, c, d, e, f, g, h] | _ :: _ => none
 | 9 => match l with | [] => none | a :: l => match l with | [] => none | b :: l => match l with | [] => none | c :: l => match l with | [] => none | d :: l => match l with | [] => none | e :: l => match l with | [] => none | f :: l => match l with | [] => none | g :: l => match l with | [] => none | h :: l => match l with | [] => none | i :: l => match l with | [] => k [a, b, c, d, e, f, g, h, i] | _ :: _ => none
 | _ => none
theorem casJ'_eq {β : Type} {k : List Nat → Option β} : ∀ {l : List Nat}, l ≠ [] → l.length ≤ 9 → casJ' l.length l k = k l
 | [], h0, _ => absurd rfl h0
 | [_], _, _ => rfl
 | [_, _], _, _ => rfl
 | [_, _, _], _, _ => rfl
 | [_, _, _, _], _, _ => rfl
 | [_, _, _, _, _], _, _ => rfl
 | [_, _, _, _, _, _], _, _ => rfl
 | [_, _, _, _, _, _, _], _, _ => rfl
 | [_, _, _, _, _, _, _, _], _, _ => rfl
 | [_, _, _, _, _, _, _, _, _], _, _ => rfl
 | _ :: _ :: _ :: _ :: _ :: _ :: _ :: _ :: _ :: _ :: l, _, h => by simp only [List.length_cons] at h; omega
def itJ {β : Type} (x j : Nat) (it : Int → List Nat) (ar : List AV) (s : St) (kr : Res → Option β) : Option β := match ar with
 | [.int .i64 n] => ifK (inR n) (bif s.next.beq x then casJ j (it n) fun l => kr (.ret (.str l) s) else cas9 (it n) fun l => kr (.ret (.str l) s))
 | _ => none
def X60w (sn : Bool → List AV → Nat → Bool) (it : Int → List Nat) : Known := ((XN.add 35 (zX (F35w sn))).add 128 (pureX F128)).add 126 (pureX (itF it))
def Y60w {β : Type} (x j : Nat) (sn : Bool → List AV → Nat → Bool) (it : Int → List Nat) : KnownK β := ((KnownK.none.add 35 (zK (F35w sn))).add 128 (pureK F128)).add 126 (itJ x j it)
section
variable (sn : Bool → List AV → Nat → Bool) (it : Int → List Nat) (tt : Bool) (a b c : Int)
def numT3 (j : Nat) (p : List Nat) : Option AV := ifK (inR (w64i c)) (casJ' j (it (w64i c)) fun h => ifK (inR (w64i b)) (cas9' (it (w64i b)) fun m => ifK (inR (w64i a)) (cas9' (it (w64i a)) fun l => strR (p ++ h ++ List.replicate (9 - m.length) 48 ++ m ++ List.replicate (9 - l.length) 48 ++ l))))
def txtP (P : Program) (g : Bool) (x j : Nat) : Prop := bodyY P G2 (X60w sn it) (Y60w x j sn it) 10 12 noLive Res.val? 10 P.funcs[60]? [.agg [.bool g, .lst [.int .u32 a, .int .u32 b, .int .u32 c] 3 tt false]] St.empty = ifK (sn g [.int .u32 a, .int .u32 b, .int .u32 c] 3) (numT3 it a b c j (bif g then [45] else []))
theorem t60f_1 : txtP sn it tt a b c Tryz.prog false 2 1 := by unfold txtP; kernel_rfl
theorem t60f_2 : txtP sn it tt a b c Tryz.prog false 2 2 := by unfold txtP; kernel_rfl
theorem t60f_3 : txtP sn it tt a b c Tryz.prog false 2 3 := by unfold txtP; kernel_rfl
theorem t60f_4 : txtP sn it tt a b c Tryz.prog false 2 4 := by unfold txtP; kernel_rfl
theorem t60f_5 : txtP sn it tt a b c Tryz.prog false 2 5 := by unfold txtP; kernel_rfl
theorem t60f_6 : txtP sn it tt a b c Tryz.prog false 2 6 := by unfold txtP; kernel_rfl
theorem t60f_7 : txtP sn it tt a b c Tryz.prog false 2 7 := by unfold txtP; kernel_rfl
theorem t60f_8 : txtP sn it tt a b c Tryz.prog false 2 8 := by unfold txtP; kernel_rfl
theorem t60f_9 : txtP sn it tt a b c Tryz.prog false 2 9 := by unfold txtP; kernel_rfl
end
end Go.Am.Sto
