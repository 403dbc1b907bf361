/- Functions of the library that the model has by other roads. -/
import Derived.Test.YtaiddjgpnpbckaaGreatDoorAmFreeze
import Derived.Lib.Builder
set_option autoImplicit false
namespace Go.Am

/-- 'internal/abi.NoEscape': what comes in goes out. -/
def sameX : List AV → St → Res := fun args s => match args with | [x] => .ret x s | _ => .fail

theorem same_known {P : Program} {G : Glob} {f : FuncId} (hrun : ∀ (x : Value) (w : World), (callFunc f #[x]).run P w = .ok (.value x) w) :
    ∀ (args : List AV) (s : St) (E : Env) (w : World) (vs : List Value), Rel E s w → GlobOk E G → VRL E args vs → ResOk P E s w f vs (sameX args s) := by
  intro args s E w vs h _ ha
  cases ha with
  | nil => trivial
  | cons h1 h2 =>
    cases h2 with
    | nil => exact .inr ⟨_, w, E, hrun _ w, .refl h, h1⟩
    | cons _ _ => trivial
end Go.Am
