import Derived.Test.YtlibahklbbachaaGreatDoorRf29
set_option autoImplicit false
set_option maxRecDepth 100000
set_option linter.unusedSimpArgs false
set_option linter.unusedVariables false
set_option maxHeartbeats 8000000
namespace Go.Am.Sto
open Go Go.Am Go.Proofs
section
variable (sn : Bool → List AV → Nat → Bool)
def X73 : Known := (Known.none.add 35 (zX (F35v sn))).add 137 cutX
def Y73 {β : Type} : KnownK β := (KnownK.none.add 35 (zK (F35v sn))).add 137 cutK
def D73 : Live := fun i => match i with | 0 => .keep [2, 3, 4, 5, 6, 27, 28, 29] | _ => .all
def b73 (M : Nat) (P : Program) (ng : Bool) (a : List AV) (n : Nat) (t1 l1 : Bool) (mg : Bool) (b : List AV) (m : Nat) (t2 l2 : Bool) : Option AV :=
 bodyY P G0 (X73 sn) (Y73 sn) 0 8 D73 Res.fresh0? M P.funcs[73]? [.agg [.bool ng, .lst a n t1 l1], .agg [.bool mg, .lst b m t2 l2]] St.empty
def L73 (M : Nat) (P : Program) (rounds : Nat) : T → St → Option AV := runLoop P G0 (X73 sn) (Y73 sn) 0 8 D73 Res.fresh0? M 73 (.keep [2, 3, 4, 5, 6, 27, 28, 29]) 6 rounds
def rowM (r ty ext : Nat) (vals : List AV) : AObj := .row { vals := vals, root := r, pos := 0, ep := 0, fep := 0, ext := ext, solo := true, ty := ty }
def sMul (ng : Bool) (a : List AV) (n : Nat) (t1 l1 : Bool) (mg : Bool) (b : List AV) (m : Nat) (t2 l2 : Bool) (K : Nat) (C : List AV) : St :=
 ⟨6, (((((Tr.nil.set 0 (rowM 0 47 2 [.bool ng, .lst a n t1 l1])).set 1 (rowM 1 47 2 [.bool mg, .lst b m t2 l2])).set 2 (rowM 2 47 2 [.bool false, .lst [] 0 true true])).set 3 (rowM 3 47 2 [.bool ng, .lst a n t1 l1])).set 4 (rowM 4 47 2 [.bool mg, .lst b m t2 l2])).set 5 (rowM 5 75 K C)⟩
def tMul (a : List AV) (n : Nat) (t1 l1 : Bool) (K : Nat) (i : Int) : T := tOf 87 [(2, .ptr 0 0), (3, .ptr 1 0), (4, .ptr 2 0), (5, .int .i64 0), (6, .sl 5 0 K 1 true), (27, .lst a n t1 l1), (28, .int .i64 (.ofNat n)), (29, .int .i64 i)]
abbrev U64 (z : Int) : Int := IntKind.u64.wrap z
abbrev mulV (o x y c : Int) : Int := U64 (U64 (U64 o + U64 (U64 x * U64 y)) + c)
def innerT (i K : Nat) (x : Int) (k : List AV → Option AV) : List Int → Nat → Int → List AV → Option AV
 | [], j, c, C => match IntKind.i64.wrap (.ofNat i + .ofNat j) with
  | .ofNat w => ifK (Nat.blt w K && true) (optK k (overwrite C (0 + w * 1) [.int .u32 (IntKind.u32.wrap c)]))
  | .negSucc _ => none
 | y :: r, j, c, C => match IntKind.i64.wrap (.ofNat i + .ofNat j) with
  | .ofNat p => ifK (Nat.blt p K && true) (opt1 .u32 (fun o => match IntKind.i64.wrap (.ofNat i + .ofNat j) with
   | .ofNat q => ifK (Nat.blt q K && true) (optK (fun C1 => innerT i K x k r (j + 1) (U64 ((mulV o x y c).tdiv 1000000000)) C1) (overwrite C (0 + q * 1) [.int .u32 (IntKind.u32.wrap ((mulV o x y c).tmod 1000000000))]))
   | .negSucc _ => none) (C[0 + p * 1]?))
  | .negSucc _ => none
def ofM (ng mg : Bool) (C : List AV) (K : Nat) : Option AV := byB ng (byB mg (ofS false) (ofS true)) (byB mg (ofS true) (ofS false))
where ofS (s : Bool) : Option AV := optK (fun v => ifK (cutC K v) (byB (!leI (.ofNat (trimA v K)) 64) (numR3 false [] 0 false true 6)
 (byB (Nat.beq (trimA v K) 0) (numR3 (bif s then !leI (.ofNat (trimA v K)) 0 else false) [] 0 (Nat.beq (trimA v K) K) false 0)
  (optK (fun v2 => ifK (Nat.blt 0 (trimA v K) && AV.flats v2) (numR3 (bif s then !leI (.ofNat (trimA v K)) 0 else false) v2 (trimA v K) (Nat.beq (trimA v K) K) false 0)) (cutN (trimA v K * 1) 0 C))))) (cutN K 0 C)
variable (M : Nat) (ng : Bool) (a : List AV) (t1 l1 : Bool) (mg : Bool) (t2 l2 : Bool)
def go73 (P : Program) (n : Nat) (b : List Int) (m : Nat) : Prop := b73 sn (M + 4) P ng a n t1 l1 mg (u32s b) m t2 l2 = bothP sn a n t1 l1 (u32s b) m t2 l2 ng mg (L73 sn (M + 4) P (M + 4) (tMul a n t1 l1 (n + m) 0) (sMul ng a n t1 l1 mg (u32s b) m t2 l2 (n + m) (List.replicate (n + m) (.int .u32 0))))
theorem s73 : ∀ n, n < 62 → ∀ b : List Int, b.length ≤ 2 → go73 sn M ng a t1 l1 mg t2 l2 Tryz.prog n b b.length
 | 0, _, [], _ => by unfold go73; as_aux_lemma => kernel_rfl
 | 0, _, [b0], _ => by unfold go73; as_aux_lemma => kernel_rfl
 | 0, _, [b0, b1], _ => by unfold go73; as_aux_lemma => kernel_rfl
 | 1, _, [], _ => by unfold go73; as_aux_lemma => kernel_rfl
 | 1, _, [b0], _ => by unfold go73; as_aux_lemma => kernel_rfl
 | 1, _, [b0, b1], _ => by unfold go73; as_aux_lemma => kernel_rfl
 | 2, _, [], _ => by unfold go73; as_aux_lemma => kernel_rfl
 | 2, _, [b0], _ => by unfold go73; as_aux_lemma => kernel_rfl
 | 2, _, [b0, b1], _ => by unfold go73; as_aux_lemma => kernel_rfl
 | 3, _, [], _ => by unfold go73; as_aux_lemma => kernel_rfl
 | 3, _, [b0], _ => by unfold go73; as_aux_lemma => kernel_rfl
 | 3, _, [b0, b1], _ => by unfold go73; as_aux_lemma => kernel_rfl
 | 4, _, [], _ => by unfold go73; as_aux_lemma => kernel_rfl
 | 4, _, [b0], _ => by unfold go73; as_aux_lemma => kernel_rfl
 | 4, _, [b0, b1], _ => by unfold go73; as_aux_lemma => kernel_rfl
 | 5, _, [], _ => by unfold go73; as_aux_lemma => kernel_rfl
 | 5, _, [b0], _ => by unfold go73; as_aux_lemma => kernel_rfl
 | 5, _, [b0, b1], _ => by unfold go73; as_aux_lemma => kernel_rfl
 | 6, _, [], _ => by unfold go73; as_aux_lemma => kernel_rfl
 | 6, _, [b0], _ => by unfold go73; as_aux_lemma => kernel_rfl
 | 6, _, [b0, b1], _ => by unfold go73; as_aux_lemma => kernel_rfl
 | 7, _, [], _ => by unfold go73; as_aux_lemma => kernel_rfl
 | 7, _, [b0], _ => by unfold go73; as_aux_lemma => kernel_rfl
 | 7, _, [b0, b1], _ => by unfold go73; as_aux_lemma => kernel_rfl
 | 8, _, [], _ => by unfold go73; as_aux_lemma => kernel_rfl
 | 8, _, [b0], _ => by unfold go73; as_aux_lemma => kernel_rfl
 | 8, _, [b0, b1], _ => by unfold go73; as_aux_lemma => kernel_rfl
 | 9, _, [], _ => by unfold go73; as_aux_lemma => kernel_rfl
 | 9, _, [b0], _ => by unfold go73; as_aux_lemma => kernel_rfl
 | 9, _, [b0, b1], _ => by unfold go73; as_aux_lemma => kernel_rfl
 | 10, _, [], _ => by unfold go73; as_aux_lemma => kernel_rfl
 | 10, _, [b0], _ => by unfold go73; as_aux_lemma => kernel_rfl
 | 10, _, [b0, b1], _ => by unfold go73; as_aux_lemma => kernel_rfl
 | 11, _, [], _ => by unfold go73; as_aux_lemma => kernel_rfl
 | 11, _, [b0], _ => by unfold go73; as_aux_lemma => kernel_rfl
 | 11, _, [b0, b1], _ => by unfold go73; as_aux_lemma => kernel_rfl
 | 12, _, [], _ => by unfold go73; as_aux_lemma => kernel_rfl
 | 12, _, [b0], _ => by unfold go73; as_aux_lemma => kernel_rfl
 | 12, _, [b0, b1], _ => by unfold go73; as_aux_lemma => kernel_rfl
 | 13, _, [], _ => by unfold go73; as_aux_lemma => kernel_rfl
 | 13, _, [b0], _ => by unfold go73; as_aux_lemma => kernel_rfl
 | 13, _, [b0, b1], _ => by unfold go73; as_aux_lemma => kernel_rfl
 | 14, _, [], _ => by unfold go73; as_aux_lemma => kernel_rfl
 | 14, _, [b0], _ => by unfold go73; as_aux_lemma => kernel_rfl
 | 14, _, [b0, b1], _ => by unfold go73; as_aux_lemma => kernel_rfl
 | 15, _, [], _ => by unfold go73; as_aux_lemma => kernel_rfl
 | 15, _, [b0], _ => by unfold go73; as_aux_lemma => kernel_rfl
 | 15, _, [b0, b1], _ => by unfold go73; as_aux_lemma => kernel_rfl
 | 16, _, [], _ => by unfold go73; as_aux_lemma => kernel_rfl
 | 16, _, [b0], _ => by unfold go73; as_aux_lemma => kernel_rfl
 | 16, _, [b0, b1], _ => by unfold go73; as_aux_lemma => kernel_rfl
 | 17, _, [], _ => by unfold go73; as_aux_lemma => kernel_rfl
 | 17, _, [b0], _ => by unfold go73; as_aux_lemma => kernel_rfl
 | 17, _, [b0, b1], _ => by unfold go73; as_aux_lemma => kernel_rfl
 | 18, _, [], _ => by unfold go73; as_aux_lemma => kernel_rfl
 | 18, _, [b0], _ => by unfold go73; as_aux_lemma => kernel_rfl
 | 18, _, [b0, b1], _ => by unfold go73; as_aux_lemma => kernel_rfl
 | 19, _, [], _ => by unfold go73; as_aux_lemma => kernel_rfl
 | 19, _, [b0], _ => by unfold go73; as_aux_lemma => kernel_rfl
 | 19, _, [b0, b1], _ => by unfold go73; as_aux_lemma => kernel_rfl
 | 20, _, [], _ => by unfold go73; as_aux_lemma => kernel_rfl
 | 20, _, [b0], _ => by unfold go73; as_aux_lemma => kernel_rfl
 | 20, _, [b0, b1], _ => by unfold go73; as_aux_lemma => kernel_rfl
 | 21, _, [], _ => by unfold go73; as_aux_lemma => kernel_rfl
 | 21, _, [b0], _ => by unfold go73; as_aux_lemma => kernel_rfl
 | 21, _, [b0, b1], _ => by unfold go73; as_aux_lemma => kernel_rfl
 | 22, _, [], _ => by unfold go73; as_aux_lemma => kernel_rfl
 | 22, _, [b0], _ => by unfold go73; as_aux_lemma => kernel_rfl
 | 22, _, [b0, b1], _ => by unfold go73; as_aux_lemma => kernel_rfl
 | 23, _, [], _ => by unfold go73; as_aux_lemma => kernel_rfl
 | 23, _, [b0], _ => by unfold go73; as_aux_lemma => kernel_rfl
 | 23, _, [b0, b1], _ => by unfold go73; as_aux_lemma => kernel_rfl
 | 24, _, [], _ => by unfold go73; as_aux_lemma => kernel_rfl
 | 24, _, [b0], _ => by unfold go73; as_aux_lemma => kernel_rfl
 | 24, _, [b0, b1], _ => by unfold go73; as_aux_lemma => kernel_rfl
 | 25, _, [], _ => by unfold go73; as_aux_lemma => kernel_rfl
 | 25, _, [b0], _ => by unfold go73; as_aux_lemma => kernel_rfl
 | 25, _, [b0, b1], _ => by unfold go73; as_aux_lemma => kernel_rfl
 | 26, _, [], _ => by unfold go73; as_aux_lemma => kernel_rfl
 | 26, _, [b0], _ => by unfold go73; as_aux_lemma => kernel_rfl
 | 26, _, [b0, b1], _ => by unfold go73; as_aux_lemma => kernel_rfl
 | 27, _, [], _ => by unfold go73; as_aux_lemma => kernel_rfl
 | 27, _, [b0], _ => by unfold go73; as_aux_lemma => kernel_rfl
 | 27, _, [b0, b1], _ => by unfold go73; as_aux_lemma => kernel_rfl
 | 28, _, [], _ => by unfold go73; as_aux_lemma => kernel_rfl
 | 28, _, [b0], _ => by unfold go73; as_aux_lemma => kernel_rfl
 | 28, _, [b0, b1], _ => by unfold go73; as_aux_lemma => kernel_rfl
 | 29, _, [], _ => by unfold go73; as_aux_lemma => kernel_rfl
 | 29, _, [b0], _ => by unfold go73; as_aux_lemma => kernel_rfl
 | 29, _, [b0, b1], _ => by unfold go73; as_aux_lemma => kernel_rfl
 | 30, _, [], _ => by unfold go73; as_aux_lemma => kernel_rfl
 | 30, _, [b0], _ => by unfold go73; as_aux_lemma => kernel_rfl
 | 30, _, [b0, b1], _ => by unfold go73; as_aux_lemma => kernel_rfl
 | 31, _, [], _ => by unfold go73; as_aux_lemma => kernel_rfl
 | 31, _, [b0], _ => by unfold go73; as_aux_lemma => kernel_rfl
 | 31, _, [b0, b1], _ => by unfold go73; as_aux_lemma => kernel_rfl
 | 32, _, [], _ => by unfold go73; as_aux_lemma => kernel_rfl
 | 32, _, [b0], _ => by unfold go73; as_aux_lemma => kernel_rfl
 | 32, _, [b0, b1], _ => by unfold go73; as_aux_lemma => kernel_rfl
 | 33, _, [], _ => by unfold go73; as_aux_lemma => kernel_rfl
 | 33, _, [b0], _ => by unfold go73; as_aux_lemma => kernel_rfl
 | 33, _, [b0, b1], _ => by unfold go73; as_aux_lemma => kernel_rfl
 | 34, _, [], _ => by unfold go73; as_aux_lemma => kernel_rfl
 | 34, _, [b0], _ => by unfold go73; as_aux_lemma => kernel_rfl
 | 34, _, [b0, b1], _ => by unfold go73; as_aux_lemma => kernel_rfl
 | 35, _, [], _ => by unfold go73; as_aux_lemma => kernel_rfl
 | 35, _, [b0], _ => by unfold go73; as_aux_lemma => kernel_rfl
 | 35, _, [b0, b1], _ => by unfold go73; as_aux_lemma => kernel_rfl
 | 36, _, [], _ => by unfold go73; as_aux_lemma => kernel_rfl
 | 36, _, [b0], _ => by unfold go73; as_aux_lemma => kernel_rfl
 | 36, _, [b0, b1], _ => by unfold go73; as_aux_lemma => kernel_rfl
 | 37, _, [], _ => by unfold go73; as_aux_lemma => kernel_rfl
 | 37, _, [b0], _ => by unfold go73; as_aux_lemma => kernel_rfl
 | 37, _, [b0, b1], _ => by unfold go73; as_aux_lemma => kernel_rfl
 | 38, _, [], _ => by unfold go73; as_aux_lemma => kernel_rfl
 | 38, _, [b0], _ => by unfold go73; as_aux_lemma => kernel_rfl
 | 38, _, [b0, b1], _ => by unfold go73; as_aux_lemma => kernel_rfl
 | 39, _, [], _ => by unfold go73; as_aux_lemma => kernel_rfl
 | 39, _, [b0], _ => by unfold go73; as_aux_lemma => kernel_rfl
 | 39, _, [b0, b1], _ => by unfold go73; as_aux_lemma => kernel_rfl
 | 40, _, [], _ => by unfold go73; as_aux_lemma => kernel_rfl
 | 40, _, [b0], _ => by unfold go73; as_aux_lemma => kernel_rfl
 | 40, _, [b0, b1], _ => by unfold go73; as_aux_lemma => kernel_rfl
 | 41, _, [], _ => by unfold go73; as_aux_lemma => kernel_rfl
 | 41, _, [b0], _ => by unfold go73; as_aux_lemma => kernel_rfl
 | 41, _, [b0, b1], _ => by unfold go73; as_aux_lemma => kernel_rfl
 | 42, _, [], _ => by unfold go73; as_aux_lemma => kernel_rfl
 | 42, _, [b0], _ => by unfold go73; as_aux_lemma => kernel_rfl
 | 42, _, [b0, b1], _ => by unfold go73; as_aux_lemma => kernel_rfl
 | 43, _, [], _ => by unfold go73; as_aux_lemma => kernel_rfl
 | 43, _, [b0], _ => by unfold go73; as_aux_lemma => kernel_rfl
 | 43, _, [b0, b1], _ => by unfold go73; as_aux_lemma => kernel_rfl
 | 44, _, [], _ => by unfold go73; as_aux_lemma => kernel_rfl
 | 44, _, [b0], _ => by unfold go73; as_aux_lemma => kernel_rfl
 | 44, _, [b0, b1], _ => by unfold go73; as_aux_lemma => kernel_rfl
 | 45, _, [], _ => by unfold go73; as_aux_lemma => kernel_rfl
 | 45, _, [b0], _ => by unfold go73; as_aux_lemma => kernel_rfl
 | 45, _, [b0, b1], _ => by unfold go73; as_aux_lemma => kernel_rfl
 | 46, _, [], _ => by unfold go73; as_aux_lemma => kernel_rfl
 | 46, _, [b0], _ => by unfold go73; as_aux_lemma => kernel_rfl
 | 46, _, [b0, b1], _ => by unfold go73; as_aux_lemma => kernel_rfl
 | 47, _, [], _ => by unfold go73; as_aux_lemma => kernel_rfl
 | 47, _, [b0], _ => by unfold go73; as_aux_lemma => kernel_rfl
 | 47, _, [b0, b1], _ => by unfold go73; as_aux_lemma => kernel_rfl
 | 48, _, [], _ => by unfold go73; as_aux_lemma => kernel_rfl
 | 48, _, [b0], _ => by unfold go73; as_aux_lemma => kernel_rfl
 | 48, _, [b0, b1], _ => by unfold go73; as_aux_lemma => kernel_rfl
 | 49, _, [], _ => by unfold go73; as_aux_lemma => kernel_rfl
 | 49, _, [b0], _ => by unfold go73; as_aux_lemma => kernel_rfl
 | 49, _, [b0, b1], _ => by unfold go73; as_aux_lemma => kernel_rfl
 | 50, _, [], _ => by unfold go73; as_aux_lemma => kernel_rfl
 | 50, _, [b0], _ => by unfold go73; as_aux_lemma => kernel_rfl
 | 50, _, [b0, b1], _ => by unfold go73; as_aux_lemma => kernel_rfl
 | 51, _, [], _ => by unfold go73; as_aux_lemma => kernel_rfl
 | 51, _, [b0], _ => by unfold go73; as_aux_lemma => kernel_rfl
 | 51, _, [b0, b1], _ => by unfold go73; as_aux_lemma => kernel_rfl
 | 52, _, [], _ => by unfold go73; as_aux_lemma => kernel_rfl
 | 52, _, [b0], _ => by unfold go73; as_aux_lemma => kernel_rfl
 | 52, _, [b0, b1], _ => by unfold go73; as_aux_lemma => kernel_rfl
 | 53, _, [], _ => by unfold go73; as_aux_lemma => kernel_rfl
 | 53, _, [b0], _ => by unfold go73; as_aux_lemma => kernel_rfl
 | 53, _, [b0, b1], _ => by unfold go73; as_aux_lemma => kernel_rfl
 | 54, _, [], _ => by unfold go73; as_aux_lemma => kernel_rfl
 | 54, _, [b0], _ => by unfold go73; as_aux_lemma => kernel_rfl
 | 54, _, [b0, b1], _ => by unfold go73; as_aux_lemma => kernel_rfl
 | 55, _, [], _ => by unfold go73; as_aux_lemma => kernel_rfl
 | 55, _, [b0], _ => by unfold go73; as_aux_lemma => kernel_rfl
 | 55, _, [b0, b1], _ => by unfold go73; as_aux_lemma => kernel_rfl
 | 56, _, [], _ => by unfold go73; as_aux_lemma => kernel_rfl
 | 56, _, [b0], _ => by unfold go73; as_aux_lemma => kernel_rfl
 | 56, _, [b0, b1], _ => by unfold go73; as_aux_lemma => kernel_rfl
 | 57, _, [], _ => by unfold go73; as_aux_lemma => kernel_rfl
 | 57, _, [b0], _ => by unfold go73; as_aux_lemma => kernel_rfl
 | 57, _, [b0, b1], _ => by unfold go73; as_aux_lemma => kernel_rfl
 | 58, _, [], _ => by unfold go73; as_aux_lemma => kernel_rfl
 | 58, _, [b0], _ => by unfold go73; as_aux_lemma => kernel_rfl
 | 58, _, [b0, b1], _ => by unfold go73; as_aux_lemma => kernel_rfl
 | 59, _, [], _ => by unfold go73; as_aux_lemma => kernel_rfl
 | 59, _, [b0], _ => by unfold go73; as_aux_lemma => kernel_rfl
 | 59, _, [b0, b1], _ => by unfold go73; as_aux_lemma => kernel_rfl
 | 60, _, [], _ => by unfold go73; as_aux_lemma => kernel_rfl
 | 60, _, [b0], _ => by unfold go73; as_aux_lemma => kernel_rfl
 | 60, _, [b0, b1], _ => by unfold go73; as_aux_lemma => kernel_rfl
 | 61, _, [], _ => by unfold go73; as_aux_lemma => kernel_rfl
 | 61, _, [b0], _ => by unfold go73; as_aux_lemma => kernel_rfl
 | 61, _, [b0, b1], _ => by unfold go73; as_aux_lemma => kernel_rfl
 | n + 62, h, _, _ => absurd h (by omega)
 | _, _, _ :: _ :: _ :: _, h => by simp at h
end
end Go.Am.Sto
