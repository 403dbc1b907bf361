import Derived.Test.YtlibahklbbachaaGreatDoorTx7
set_option autoImplicit false
set_option maxRecDepth 100000
set_option linter.unusedSimpArgs false
set_option linter.unusedVariables false
namespace Go.Am
open Go
def loopsOf : Code → Nat → List (Nat × Code)
  | .seq a b, i => loopsOf a i ++ loopsOf b i
  | .block id c, _ => loopsOf c id
  | .cond _ a b, i => loopsOf a i ++ loopsOf b i
  | .loop c, i => [(i, c)]
  | _, _ => []
section
variable {β : Type} (P : Program) (G : Glob) (X : Known) (Y : KnownK β) (loops n : Nat) (D : Live) (bs : Option Nat)
def aftersY (m : Nat) : Code → Nat → KA β → List (KA β)
  | .seq a b, i, k => aftersY m a i (fun o t s => match o with | .normal => execK P G (callN P G X loops n) (callY P G X Y loops n) D bs m b i k t s | o => k o t s) ++ aftersY m b i k
  | .block id c, _, k => aftersY m c id fun o t s => match o with | .exit j => bif j.beq id then k .normal t s else k (.exit j) t s | o => k o t s
  | .cond _ a b, i, k => aftersY m a i k ++ aftersY m b i k
  | .loop _, _, k => [k]
  | _, _, _ => []
def runLoopN (q : Nat) (kr : Res → Option β) (m : Nat) (f : FuncId) (md : Mode) (nb : Nat) (rounds : Nat) : T → St → Option β :=
  loopK md nb (match (loopsOf (bodyOf P f) 0)[q]? with | some (i, c) => execK P G (callN P G X loops n) (callY P G X Y loops n) D (baseO D nb) m c i | none => fun _ _ _ => none)
    (match P.funcs[f]? with
      | some fn => (match fn.body with
        | some c => (match (aftersY P G X Y loops n D (baseO D nb) m c 0 (fun o t s => kr (finC P fn.results.toList (callB P G (callN P G X loops n) m) (.mk o t s))))[q]? with | some k => k | none => fun _ _ _ => none)
        | none => fun _ _ _ => none)
      | none => fun _ _ _ => none) rounds
end
end Go.Am
