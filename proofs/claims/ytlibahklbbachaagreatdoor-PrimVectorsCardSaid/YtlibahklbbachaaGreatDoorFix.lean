/- A primitive that is called by its name. -/
import Derived.Test.YtlibahklbbachaaGreatDoorRev
import Derived.Test.YtlibahklbbachaaGreatDoorNum
import Derived.Test.YtlibahklbbachaaGreatDoorEqu
import Derived.Test.YtlibahklbbachaaGreatDoorAmF
import Derived.Laws.Externs
section
set_option autoImplicit false
set_option maxRecDepth 100000
namespace Go.Am.Sto
open Go Go.Am Go.Proofs

/-- a contract that says less -/
theorem meth_mono {P : Program} {G : Glob} {f : FuncId} {F F' : Hid → List AV → Option (Bool × AV × Hid)} (h : MethOk P G f F) (hF : ∀ d ar x d', F' d ar = some (true, x, d') → F d ar = some (true, x, d')) : MethOk P G f F' := by
  intro args s E w vs h1 hG ha
  have k := h args s E w vs h1 hG ha
  unfold methX at k ⊢
  split
  · rename_i n hn
    simp only [hn] at k
    split
    · rename_i d hd
      simp only [hd] at k
      split
      · rename_i p hp
        obtain ⟨br, q1, q2⟩ := convML_eq (δ := Bool × AV × Hid) hp
        rw [q2] at k
        obtain ⟨c, x, d'⟩ := p
        cases c with
        | false => trivial
        | true => rw [hF d br x d' q1] at k; exact k
      · trivial
    · trivial
  · trivial

/-- a result, taken apart: a value without an error -/
def isVal : Option (Bool × AV × Hid) → Option (V2 × Hid)
  | some (true, .tup [.agg [.int .i64 t, .int .i64 n], .int .i64 (.ofNat 0)], d) => some ((t, n), d)
  | _ => none
def valO (d : Hid) (ar : List AV) : Option (V2 × Hid) := isVal (P10 d ar)
def valC (d : Hid) (ar : List AV) : Bool := (valO d ar).isSome
def valT (d : Hid) (ar : List AV) : Int := match valO d ar with | some p => p.1.1 | none => 0
def valN (d : Hid) (ar : List AV) : Int := match valO d ar with | some p => p.1.2 | none => 0
def valD (d : Hid) (ar : List AV) : Hid := match valO d ar with | some p => p.2 | none => d
def valF (c : Hid → List AV → Bool) (t n : Hid → List AV → Int) (D : Hid → List AV → Hid) (d : Hid) (ar : List AV) : Option (Bool × AV × Hid) := some (c d ar, .tup [.agg [.int .i64 (t d ar), .int .i64 (n d ar)], .int .i64 0], D d ar)
theorem isVal_some {p : Option (Bool × AV × Hid)} {q : V2 × Hid} (h : isVal p = some q) : p = some (true, .tup [.agg [.int .i64 q.1.1, .int .i64 q.1.2], .int .i64 0], q.2) := by
  unfold isVal at h
  split at h
  · cases h; rfl
  · cases h
theorem k10v : MethOk Tryz.prog G0 10 (valF valC valT valN valD) := meth_mono k10 fun d ar x d' h => by
  unfold valF at h
  simp only [Option.some.injEq, Prod.mk.injEq] at h
  obtain ⟨h1, rfl, rfl⟩ := h
  unfold valC at h1
  obtain ⟨q, hq⟩ := Option.isSome_iff_exists.1 h1
  rw [isVal_some hq, valT, valN, valD, hq]
def numK {β : Type} (c : List Nat → Bool) (num : List Nat → Int) (ar : List AV) (s : St) (kr : Res → Option β) : Option β :=
  match ar with
  | [.str nm] => ifK (c nm) (kr (.ret (.tup [.int .i64 (num nm), .bool true]) s))
  | _ => none
def X14 (c : Hid → List AV → Bool) (t n : Hid → List AV → Int) (D : Hid → List AV → Hid) : Known := (Known.none.add 10 (methX (valF c t n D))).add 19 (pureX F19)
def Y14 {β : Type} (cn : List Nat → Bool) (num : List Nat → Int) (c : Hid → List AV → Bool) (t n : Hid → List AV → Int) (D : Hid → List AV → Hid) : KnownK β := (KnownK.none.add 10 (methK (valF c t n D))).add 19 (numK cn num)
theorem t14 (cn : List Nat → Bool) (num : List Nat → Int) (c : Hid → List AV → Bool) (t n : Hid → List AV → Int) (D : Hid → List AV → Hid) (d : Hid) (nm : List Nat) (cs : List AV) (k : Nat) (tt nl : Bool) :
    bodyY Tryz.prog G0 (X14 c t n D) (Y14 cn num c t n D) 5 8 noLive Res.meth? 5 Tryz.prog.funcs[14]? [.hptr 0, .str nm, .lst cs k tt nl] (St.one d) =
    ifK (cn nm) (ifK (AV.plain (.lst cs k tt nl)) (ifK (c d [.hptr 0, .int .i64 (num nm), .lst cs k tt nl])
      (some (val (t d [.hptr 0, .int .i64 (num nm), .lst cs k tt nl]) (n d [.hptr 0, .int .i64 (num nm), .lst cs k tt nl]), D d [.hptr 0, .int .i64 (num nm), .lst cs k tt nl])))) := by kernel_rfl
def F14 (d : Hid) : List AV → Option (Bool × AV × Hid)
  | [.hptr 0, .str nm, .lst cs k tt nl] => some (leI 0 (numOf nm) && (AV.plains cs && valC d [.hptr 0, .int .i64 (numOf nm), .lst cs k tt nl]), val (valT d [.hptr 0, .int .i64 (numOf nm), .lst cs k tt nl]) (valN d [.hptr 0, .int .i64 (numOf nm), .lst cs k tt nl]), valD d [.hptr 0, .int .i64 (numOf nm), .lst cs k tt nl])
  | _ => none
abbrev cnO (nm : List Nat) : Bool := leI 0 (numOf nm)
theorem kX14 : KnownOk Tryz.prog G0 (X14 valC valT valN valD) := ((KnownOk.none _ _).add k10v).add k19
theorem kY14 {β : Type} : KnownKOk (X14 valC valT valN valD) (Y14 cnO numOf valC valT valN valD : KnownK β) := addH' (addK (KnownKOk.none _) 10 _) 19 fun ar s kr kr' h => by
  unfold numK
  split
  · rename_i nm
    refine Le.ifK fun hc => ?_
    have : pureX F19 [.str nm] s = .ret (.tup [.int .i64 (numOf nm), .bool true]) s := by
      unfold pureX F19
      simp only
      rw [cond_of_true hc]
    rw [this]
    exact h _
  · exact .none _
theorem k14 : MethOk Tryz.prog G0 14 F14 := meth_known (D := noLive) (m := 5) (loops := 5) (n := 8) hm hn G0_plain kX14 kY14 fun d ar x d' hF => by
  unfold F14 at hF
  split at hF
  · rename_i nm cs k tt nl
    simp only [Option.some.injEq, Prod.mk.injEq] at hF
    obtain ⟨h1, rfl, rfl⟩ := hF
    obtain ⟨p1, h1⟩ := Bool.and_eq_true_iff.1 h1
    obtain ⟨p2, p3⟩ := Bool.and_eq_true_iff.1 h1
    refine (t14 cnO numOf valC valT valN valD d nm cs k tt nl).trans ?_
    rw [show cnO nm = true from p1, show AV.plain (.lst cs k tt nl) = true from p2, p3]
    rfl
  · cases hF
end Go.Am.Sto
end
section
set_option autoImplicit false
set_option maxRecDepth 100000
namespace Go.Am.Sto
open Go Go.Am Go.Proofs

def valG (c : Hid → List AV → Bool) (t n : Hid → List AV → Int) (D : Hid → List AV → Hid) (d : Hid) (ar : List AV) : Option (Bool × AV × Hid) := some (c d ar, .agg [.int .i64 (t d ar), .int .i64 (n d ar)], D d ar)
def X13 (c : Hid → List AV → Bool) (t n : Hid → List AV → Int) (D : Hid → List AV → Hid) : Known := Known.none.add 14 (methX (valG c t n D))
def Y13 {β : Type} (c : Hid → List AV → Bool) (t n : Hid → List AV → Int) (D : Hid → List AV → Hid) : KnownK β := KnownK.none.add 14 (methK (valG c t n D))
def D13 : Live := fun i => match i with | 0 => .pack [0, 1, 4, 5, 6] | _ => .all
def L13 (P : Program) (c : Hid → List AV → Bool) (t n : Hid → List AV → Int) (D : Hid → List AV → Hid) (rounds : Nat) : T → St → Option R := runLoop P G0 (X13 c t n D) (Y13 c t n D) 5 8 D13 Res.meth? 1000 13 (.pack [0, 1, 4, 5, 6]) 2 rounds
def tF (zs : List AV) (m : Nat) (tt nl : Bool) (out : AV) (i : Int) : T := tOf 24 [(0, .hptr 0), (1, .lst zs m tt nl), (4, .ptr 1 0), (5, out), (6, .int .i64 i)]
def sF0 (d : Hid) : St := ⟨2, (Tr.nil.set 0 (.hid d)).set 1 (.row (row0 1 29 (v1 0 0)))⟩
def sF1 (d : Hid) (C : List AV) : St := ⟨3, (sF0 d).heap.set 2 (.row (rowB 2 29 C))⟩
section
variable (c : Hid → List AV → Bool) (t n : Hid → List AV → Int) (D : Hid → List AV → Hid) (d : Hid) (zs : List AV) (m : Nat) (tt nl : Bool)
theorem start13 : bodyY Tryz.prog G0 (X13 c t n D) (Y13 c t n D) 5 8 D13 Res.meth? 1000 Tryz.prog.funcs[13]? [.hptr 0, .lst zs m tt nl] (St.one d) = L13 Tryz.prog c t n D 1000 (tF zs m tt nl mt 0) (sF0 d) := by kernel_rfl
abbrev lArgs (l : AV) : List AV := [.hptr 0, .str [108, 105, 115, 116], l]
def lR (l : AV) : Option R := ifK (c d (lArgs l)) (some (.agg [.int .i64 (t d (lArgs l)), .int .i64 (n d (lArgs l))], D d (lArgs l)))
theorem step13a (N i : Nat) : L13 Tryz.prog c t n D (N + 1) (tF zs m tt nl mt (.ofNat i)) (sF0 d) =
    byB (!leI (.ofNat m) (.ofNat i)) (ifK (Nat.blt i m && nonNil zs) (opt1 .i64 (fun z => ifK (AV.under 2 (.lst zs m tt nl)) (L13 Tryz.prog c t n D N (tF zs m tt nl (.sl 2 0 1 2 false) (IntKind.i64.wrap (.ofNat i + 1))) (sF1 d (v1 4 z)))) (zs[i * 1]?)))
      (lR c t n D d mt) := by kernel_rfl
theorem step13b (N i k : Nat) (C : List AV) : L13 Tryz.prog c t n D (N + 1) (tF zs m tt nl (.sl 2 0 (k + 1) 2 false) (.ofNat i)) (sF1 d C) =
    byB (!leI (.ofNat m) (.ofNat i)) (ifK (Nat.blt i m && nonNil zs) (opt1 .i64 (fun z => ifK (Nat.ble (k + 1 + 1) 1073741824) (optK (fun old => ifK (AV.under 2 (.lst zs m tt nl))
      (ifK ((bif Nat.ble (1 + C.length) (1 + 0 + (k + 1) * 2) then 0 else 0 + 1).beq (bif Nat.ble (1 + C.length) (1 + 0 + (k + 1) * 2) then 0 else 0 + 1))
        (optK (fun cs => ifK (nonNil cs && AV.plains cs) (L13 Tryz.prog c t n D N (tF zs m tt nl (.sl 2 0 (k + 1 + 1) 2 false) (IntKind.i64.wrap (.ofNat i + 1))) (sF1 d cs))) (cutN ((k + 1 + 1) * 2) 0 (old ++ v1 4 z)))))
      (cutN ((k + 1) * 2) 0 C))) (zs[i * 1]?)))
      (optK (fun cs => ifK (Nat.blt 0 (k + 1) && AV.plains cs) (lR c t n D d (.lst cs (k + 1) false false))) (cutN ((k + 1) * 2) 0 C)) := by kernel_rfl
end
end Go.Am.Sto
end
section
set_option autoImplicit false
set_option maxRecDepth 100000
namespace Go.Am.Sto
open Go Go.Am Go.Proofs

def intsA : List Int → List AV
  | [] => []
  | z :: l => .int .i64 z :: intsA l
def fx (l : List Int) : List V2 := l.map fun z => (4, z)
theorem intsA_get : ∀ (l : List Int) (i : Nat), (intsA l)[i]? = (l[i]?).map (AV.int .i64)
  | [], _ => rfl
  | z :: l, 0 => rfl
  | z :: l, i + 1 => by simp only [intsA, List.getElem?_cons_succ]; exact intsA_get l i
theorem intsA_under (nb : Nat) : ∀ l : List Int, AV.unders nb (intsA l) = true
  | [] => rfl
  | _ :: l => by simp only [intsA, AV.unders, intsA_under nb l]; rfl
/-- the numbers as arguments of list -/
def fixA (l : List Int) : AV := match l with | [] => mt | _ => .lst (cellsA (fx l)) l.length false false
section
variable (c : Hid → List AV → Bool) (t n : Hid → List AV → Int) (D : Hid → List AV → Hid) (d : Hid) (tt nl : Bool)
theorem main13b (l : List Int) (hl : l.length ≤ 900) : ∀ (N k : Nat), k + 1 ≤ l.length → l.length < N + (k + 1) →
    L13 Tryz.prog c t n D N (tF (intsA l) l.length tt nl (.sl 2 0 (k + 1) 2 false) (.ofNat (k + 1))) (sF1 d (cellsA (fx (l.take (k + 1))))) = lR c t n D d (fixA l)
  | 0, k, h1, h2 => by omega
  | N + 1, k, h1, h2 => by
    have hlen : (fx (l.take (k + 1))).length = k + 1 := by simp [fx]; omega
    rw [step13b, cellsA_cut _ (k + 1) hlen]
    by_cases he : k + 1 = l.length
    · rw [leI_t (show Int.ofNat l.length ≤ Int.ofNat (k + 1) by simp; omega)]
      show ifK (Nat.blt 0 (k + 1) && AV.plains _) (lR c t n D d (.lst (cellsA (fx (l.take (k + 1)))) (k + 1) false false)) = _
      rw [cellsA_plains, show Nat.blt 0 (k + 1) = true by simp, he, List.take_length]
      cases l with
      | nil => simp at he
      | cons z l => rfl
    · have hk : k + 1 < l.length := by omega
      have hnn : nonNil (intsA l) = true := by cases l with | nil => simp at hk | cons => rfl
      rw [leI_f (show Int.ofNat (k + 1) < Int.ofNat l.length by simp; omega), Nat.mul_one, intsA_get, List.getElem?_eq_getElem hk, hnn, show Nat.blt (k + 1) l.length = true by simpa using hk]
      show ifK (Nat.ble (k + 1 + 1) 1073741824) (ifK (AV.under 2 (.lst (intsA l) l.length tt nl)) (ifK (Nat.beq _ _) (optK _ (cutN ((k + 1 + 1) * 2) 0 (cellsA (fx (l.take (k + 1))) ++ cellsA [(4, l[k + 1])]))))) = _
      rw [show Nat.ble (k + 1 + 1) 1073741824 = true from Nat.ble_eq_true_of_le (by omega), show AV.under 2 (.lst (intsA l) l.length tt nl) = true from intsA_under 2 l, beq_self', ← cellsA_append]
      have hacc : fx (l.take (k + 1)) ++ [(4, l[k + 1])] = fx (l.take (k + 1 + 1)) := by
        unfold fx
        rw [List.take_succ_eq_append_getElem hk, List.map_append]; rfl
      rw [hacc, cellsA_cut _ (k + 1 + 1) (by simp [fx]; omega)]
      have hne : fx (l.take (k + 1 + 1)) ≠ [] := by rw [← hacc]; simp
      show ifK (nonNil (cellsA _) && AV.plains (cellsA _)) (L13 Tryz.prog c t n D N (tF _ _ _ _ (.sl 2 0 (k + 1 + 1) 2 false) (IntKind.i64.wrap (Int.ofNat (k + 1) + 1))) _) = _
      rw [cellsA_nonNil hne, cellsA_plains, wrap64 (by simp; omega) (by simp; omega)]
      exact main13b l hl N (k + 1) (by omega) (by omega)
theorem main13 (l : List Int) (hl : l.length ≤ 900) : L13 Tryz.prog c t n D 1000 (tF (intsA l) l.length tt nl mt 0) (sF0 d) = lR c t n D d (fixA l) := by
  show L13 Tryz.prog c t n D (999 + 1) (tF (intsA l) l.length tt nl mt (.ofNat 0)) (sF0 d) = _
  rw [step13a]
  cases l with
  | nil => rfl
  | cons z l =>
    rw [leI_f (show Int.ofNat 0 < Int.ofNat (z :: l).length by simp)]
    show ifK (AV.under 2 (.lst (intsA (z :: l)) (z :: l).length tt nl)) (L13 Tryz.prog c t n D 999 (tF _ _ _ _ (.sl 2 0 1 2 false) (IntKind.i64.wrap (Int.ofNat 0 + 1))) (sF1 d (v1 4 z))) = _
    rw [show AV.under 2 (.lst (intsA (z :: l)) (z :: l).length tt nl) = true from intsA_under 2 _, wrap64 (by simp) (by simp)]
    exact main13b c t n D d tt nl (z :: l) hl 999 0 (by simp) (by omega)
end
/-- what run is handed, as Apply is -/
def pAr14 : List AV → List AV
  | [.hptr 0, .str nm, .lst cs k tt nl] => [.hptr 0, .int .i64 (numOf nm), .lst cs k tt nl]
  | _ => []
def c14 (d : Hid) (ar : List AV) : Bool := match ar with
  | [.hptr 0, .str nm, .lst cs k tt nl] => leI 0 (numOf nm) && (AV.plains cs && valC d [.hptr 0, .int .i64 (numOf nm), .lst cs k tt nl])
  | _ => false
def t14' (d : Hid) (ar : List AV) : Int := valT d (pAr14 ar)
def n14' (d : Hid) (ar : List AV) : Int := valN d (pAr14 ar)
def D14' (d : Hid) (ar : List AV) : Hid := valD d (pAr14 ar)
theorem k14v : MethOk Tryz.prog G0 14 (valG c14 t14' n14' D14') := meth_mono k14 fun d ar x d' h => by
  unfold valG at h
  simp only [Option.some.injEq, Prod.mk.injEq] at h
  obtain ⟨h1, rfl, rfl⟩ := h
  unfold c14 at h1
  split at h1
  · simp only [F14, h1]; rfl
  · cases h1
def isInts : List AV → Nat → Bool
  | [], 0 => true
  | .int .i64 _ :: r, m + 1 => isInts r m
  | _, _ => false
def ofInts : List AV → List Int
  | .int .i64 z :: r => z :: ofInts r
  | _ => []
theorem isInts_eq : ∀ {zs : List AV} {m : Nat}, isInts zs m = true → zs = intsA (ofInts zs) ∧ (ofInts zs).length = m
  | [], 0, _ => ⟨rfl, rfl⟩
  | .int .i64 z :: r, m + 1, h => by
    obtain ⟨h1, h2⟩ := isInts_eq (zs := r) (m := m) h
    exact ⟨by simp only [ofInts, intsA]; rw [← h1], by simp only [ofInts, List.length_cons, h2]⟩
  | [], m + 1, h => by simp [isInts] at h
  | .int .i64 z :: r, 0, h => by simp [isInts] at h
theorem kX13 : KnownOk Tryz.prog G0 (X13 c14 t14' n14' D14') := (KnownOk.none _ _).add k14v
theorem kY13 {β : Type} : KnownKOk (X13 c14 t14' n14' D14') (Y13 c14 t14' n14' D14' : KnownK β) := addK (KnownKOk.none _) 14 _
abbrev l13 (zs : List AV) : List AV := lArgs (fixA (ofInts zs))
def F13 (d : Hid) : List AV → Option (Bool × AV × Hid)
  | [.hptr 0, .lst zs m _ _] => some (isInts zs m && (Nat.ble m 900 && c14 d (l13 zs)), .agg [.int .i64 (t14' d (l13 zs)), .int .i64 (n14' d (l13 zs))], D14' d (l13 zs))
  | _ => none
theorem k13 : MethOk Tryz.prog G0 13 F13 := meth_known (D := D13) (m := 1000) (loops := 5) (n := 8) hm hn G0_plain kX13 kY13 fun d ar x d' hF => by
  unfold F13 at hF
  split at hF
  · rename_i zs m tt nl
    simp only [Option.some.injEq, Prod.mk.injEq] at hF
    obtain ⟨h1, rfl, rfl⟩ := hF
    obtain ⟨p1, h1⟩ := Bool.and_eq_true_iff.1 h1
    obtain ⟨p2, p3⟩ := Bool.and_eq_true_iff.1 h1
    obtain ⟨e1, e2⟩ := isInts_eq p1
    have hl := Nat.le_of_ble_eq_true p2
    unfold l13 at p3 ⊢
    generalize ofInts zs = l at *
    subst e1; subst e2
    rw [start13, main13 _ _ _ _ d tt nl l hl]
    unfold lR
    rw [p3]; rfl
  · cases hF
end Go.Am.Sto
end
section
set_option autoImplicit false
set_option maxRecDepth 100000
namespace Go.Am.Sto
open Go Go.Am Go.Proofs

theorem isSame : ∀ (x : Value) (w : World), (callFunc 209 #[x]).run Tryz.prog w = .ok (.value x) w := fun x w => by
  have hf : Tryz.prog.funcs[209]? = some Tryz.f209 := by kernel_rfl
  rw [run_callFunc_extern hf (by kernel_rfl) (by kernel_rfl) (by kernel_rfl) (e := Extern.AbiNoEscape.same) (by kernel_rfl)]
  rfl
def XN : Known := Known.none.add 209 sameX
theorem kN : KnownOk Tryz.prog G0 XN := (KnownOk.none _ _).add (same_known isSame)
def D9 : Live := noLive
theorem run9 : bodyK Tryz.prog G0 XN 100 100 D9 Res.val? 100 Tryz.prog.funcs[9]? [] St.empty = some (.bool true) := by kernel_rfl
def F9 : List AV → Option AV
  | [] => some (.bool true)
  | _ => none
theorem k9 : ∀ (args : List AV) (s : St) (E : Env) (w : World) (vs : List Value), Rel E s w → GlobOk E G0 w → VRL E args vs → ResOk Tryz.prog E s w 9 vs (pureX F9 args s) := flat_known (D := D9) (m := 100) (loops := 100) (n := 100) (F := F9) hm hn G0_plain kN fun args x h => by
  unfold F9 at h
  split at h
  · cases h; exact ⟨rfl, rfl, run9⟩
  · cases h
end Go.Am.Sto
end
