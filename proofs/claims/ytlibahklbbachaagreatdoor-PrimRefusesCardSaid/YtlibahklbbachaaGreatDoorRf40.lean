import Derived.Test.YtlibahklbbachaaGreatDoorRf33
set_option autoImplicit false
set_option maxRecDepth 100000
set_option linter.unusedSimpArgs false
set_option linter.unusedVariables false
set_option maxHeartbeats 8000000
namespace Go.Am.Sto
open Go Go.Am Go.Proofs
section
variable (isn : Int → Int → Bool) (ng : Int → Bool) (ls : Int → List AV) (ln : Int → Nat) (le : Int → Bool)
variable (cc : Bool → List AV → Nat → Bool → Bool → Bool → List AV → Nat → Bool → Bool → Bool) (cv : Bool → List AV → Nat → Bool → Bool → Bool → List AV → Nat → Bool → Bool → Int)
variable (tt : Bool) (d : Hid) (cs : List AV)
def ask9 (P : Program) (n : Nat) : Prop := apC isn ng ls ln le P cc cv tt d 9 cs n = ifK (AV.plain (.lst cs n tt false)) (ifK (okp d cs n) (numsT isn d cs (fun l => cmpsT ng ls ln le cc cv d (fun x => leI x 0) l) n 0 []))
theorem a9 : ∀ n, n ≤ 30 → 1 ≤ n → ask9 isn ng ls ln le cc cv tt d cs Tryz.prog n
 | 0, _, h => absurd h (by omega)
 | 1, _, _ => by unfold ask9; as_aux_lemma => kernel_rfl
 | 2, _, _ => by unfold ask9; as_aux_lemma => kernel_rfl
 | 3, _, _ => by unfold ask9; as_aux_lemma => kernel_rfl
 | 4, _, _ => by unfold ask9; as_aux_lemma => kernel_rfl
 | 5, _, _ => by unfold ask9; as_aux_lemma => kernel_rfl
 | 6, _, _ => by unfold ask9; as_aux_lemma => kernel_rfl
 | 7, _, _ => by unfold ask9; as_aux_lemma => kernel_rfl
 | 8, _, _ => by unfold ask9; as_aux_lemma => kernel_rfl
 | 9, _, _ => by unfold ask9; as_aux_lemma => kernel_rfl
 | 10, _, _ => by unfold ask9; as_aux_lemma => kernel_rfl
 | 11, _, _ => by unfold ask9; as_aux_lemma => kernel_rfl
 | 12, _, _ => by unfold ask9; as_aux_lemma => kernel_rfl
 | 13, _, _ => by unfold ask9; as_aux_lemma => kernel_rfl
 | 14, _, _ => by unfold ask9; as_aux_lemma => kernel_rfl
 | 15, _, _ => by unfold ask9; as_aux_lemma => kernel_rfl
 | 16, _, _ => by unfold ask9; as_aux_lemma => kernel_rfl
 | 17, _, _ => by unfold ask9; as_aux_lemma => kernel_rfl
 | 18, _, _ => by unfold ask9; as_aux_lemma => kernel_rfl
 | 19, _, _ => by unfold ask9; as_aux_lemma => kernel_rfl
 | 20, _, _ => by unfold ask9; as_aux_lemma => kernel_rfl
 | 21, _, _ => by unfold ask9; as_aux_lemma => kernel_rfl
 | 22, _, _ => by unfold ask9; as_aux_lemma => kernel_rfl
 | 23, _, _ => by unfold ask9; as_aux_lemma => kernel_rfl
 | 24, _, _ => by unfold ask9; as_aux_lemma => kernel_rfl
 | 25, _, _ => by unfold ask9; as_aux_lemma => kernel_rfl
 | 26, _, _ => by unfold ask9; as_aux_lemma => kernel_rfl
 | 27, _, _ => by unfold ask9; as_aux_lemma => kernel_rfl
 | 28, _, _ => by unfold ask9; as_aux_lemma => kernel_rfl
 | 29, _, _ => by unfold ask9; as_aux_lemma => kernel_rfl
 | 30, _, _ => by unfold ask9; as_aux_lemma => kernel_rfl
 | n + 31, h, _ => absurd h (by omega)
end
end Go.Am.Sto
