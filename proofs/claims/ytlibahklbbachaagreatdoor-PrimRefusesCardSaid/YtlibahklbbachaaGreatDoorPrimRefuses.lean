/- PrimRefuses returns true at every input and leaves its arguments as they were, where the listed package-level variables hold what the program's text lays in them (the tied card of the given statement). -/
import Derived.Test.YtlibahklbbachaaGreatDoorRf44
import Derived.Test.YtlibahklbbachaaGreatDoorRf42
import Derived.Test.YtlibahklbbachaaGreatDoorRf45
import Derived.Test.YtlibahklbbachaaGreatDoorRf49
set_option autoImplicit false
set_option maxRecDepth 100000
set_option linter.unusedSimpArgs false
set_option linter.unusedVariables false
namespace Go.Proofs.YtlibahklbbachaaGreatDoor
open Go.Am Go.Am.Sto
theorem hallR (op : Int) (l : List V2) (h0 : l ≠ []) (hl : l.length ≤ 30) : Answered Tryz.prog op l :=
 ans_most l h0 hl (fun op ho hk ha => by
  rcases ho with rfl | rfl | rfl | rfl
  ·exact ans_3q l (ar_two (.inl rfl) ha) hk ha
  ·exact ans_4q l (ar_two (.inr (.inl rfl)) ha) hk ha
  ·exact ans_5q l (ar_two (.inr (.inr rfl)) ha) hk ha
  ·exact ans_24 l hk ha) op
theorem primRefuses_card : Rows.PrimRefusesCardSaid := card_of hallR
end Go.Proofs.YtlibahklbbachaaGreatDoor
