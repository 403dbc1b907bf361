/- Vectors, pairs, boxes: the law's code. What is known. -/
import Derived.Test.YtlibahklbbachaaGreatDoorVec1
import Derived.Test.YtlibahklbbachaaGreatDoorPln
import Derived.Test.YtlibahklbbachaaGreatDoorLaw
import Derived.Test.YtlibahklbbachaaGreatDoorFix
section
set_option autoImplicit false
set_option maxRecDepth 100000
namespace Go.Am.Sto
open Go Go.Am Go.Proofs

/-- a result, with its error -/
def apV (c : Hid → List AV → Bool) (t n e : Hid → List AV → Int) (D : Hid → List AV → Hid) (d : Hid) (ar : List AV) : Option (Bool × AV × Hid) := some (c d ar, .tup [.agg [.int .i64 (t d ar), .int .i64 (n d ar)], .int .i64 (e d ar)], D d ar)
section
variable (c c3 ca : Hid → List AV → Bool) (t n t3 n3 ta na ea : Hid → List AV → Int) (D D3 Da : Hid → List AV → Hid)
def X6 : Known := (((((Known.none.add 8 (newX F8)).add 9 (pureX F9)).add 13 (methX (valG c3 t3 n3 D3))).add 14 (methX (valG c t n D))).add 19 (pureX F19)).add 10 (methX (apV ca ta na ea Da))
def Y6 {β : Type} : KnownK β := (((KnownK.none.add 13 (methK (valG c3 t3 n3 D3))).add 14 (methK (valG c t n D))).add 19 (pureK F19)).add 10 (methK (apV ca ta na ea Da))
end
def D6 : Live := fun i => match i with | 0 => .pack [0, 1, 2, 7, 9, 10, 11, 18] | _ => .all
end Go.Am.Sto
end
section
set_option autoImplicit false
set_option maxRecDepth 100000
namespace Go.Am.Sto
open Go Go.Am Go.Proofs

def rowX (r : Nat) (vals : List AV) : AObj := .row { vals := vals, root := r, pos := 0, ep := 0, fep := 0, ext := vals.length, solo := true, ty := 29 }
def sVec (d : Hid) (f0 f1 v0 v1 at_ x w0 w1 : Int) : St :=
  ⟨7, ((((((Tr.nil.set 0 (.hid d)).set 1 (rowX 1 (v1' f0 f1))).set 2 (rowX 2 (v1' v0 v1))).set 3 (rowX 3 (v1' 4 at_))).set 4 (rowX 4 (v1' 4 x))).set 5 (rowX 5 (v3 v0 v1 4 at_ 4 x))).set 6 (rowX 6 (v1' w0 w1))⟩
where v1' (a b : Int) : List AV := [.int .i64 a, .int .i64 b]
def tVec (la : List AV) (m : Nat) (nl : Bool) (at_ x i : Int) : T := tOf 184 [(0, .lst la m false nl), (1, .int .i64 at_), (2, .int .i64 x), (7, .hptr 0), (9, .ptr 2 0), (10, .ptr 3 0), (11, .ptr 4 0), (18, .int .i64 i)]
def nVR : List Nat := [118, 101, 99, 116, 111, 114, 45, 114, 101, 102]
def nBox : List Nat := [98, 111, 120]
def nCons : List Nat := [99, 111, 110, 115]
def nSB : List Nat := [115, 101, 116, 45, 98, 111, 120, 33]
def nSC : List Nat := [115, 101, 116, 45, 99, 100, 114, 33]
def nUn : List Nat := [117, 110, 98, 111, 120]
def nCar : List Nat := [99, 97, 114]
def nCdr : List Nat := [99, 100, 114]
section
variable (c c3 ca : Hid → List AV → Bool) (t n t3 n3 ta na ea : Hid → List AV → Int) (D D3 Da : Hid → List AV → Hid)
def L6 (P : Program) (rounds : Nat) : T → St → Option AV := runLoop P G2 (X6 c c3 ca t n t3 n3 ta na ea D D3 Da) (Y6 c c3 ca t n t3 n3 ta na ea D D3 Da) 5 8 D6 Res.val? 300 6 (.pack [0, 1, 2, 7, 9, 10, 11, 18]) 7 rounds
variable (la : List AV) (m : Nat) (nl : Bool) (at_ x : Int)
abbrev A26 (v0 v1 : Int) : List AV := [.hptr 0, .int .i64 26, .lst (v3 v0 v1 4 at_ 4 x) 3 true false]
abbrev A25 (v0 v1 : Int) : List AV := [.hptr 0, .int .i64 25, .lst (v2 v0 v1 4 at_) 2 true false]
def err6 (d : Hid) (e v0 v1 : Int) : Option AV := ifK (ca d (A25 at_ v0 v1)) (byB (eqI e 12) (some (.bool (eqI (ea d (A25 at_ v0 v1)) 12))) N4)
theorem start6 : bodyY Tryz.prog G2 (X6 c c3 ca t n t3 n3 ta na ea D D3 Da) (Y6 c c3 ca t n t3 n3 ta na ea D D3 Da) 5 8 D6 Res.val? 300 Tryz.prog.funcs[6]? [.lst la m false nl, .int .i64 at_, .int .i64 x] St.empty =
    byB (!leI (.ofNat m) 200) T4 (byB (leI x (-1000000000000000000)) T4 (byB (leI 1000000000000000000 x) T4 (byB (leI at_ (-1000000000000000000)) T4 (byB (leI 1000000000000000000 at_) T4
      (ifK (AV.plain (.lst la m false nl)) (stp c3 t3 n3 D3 (newHid 3000) [.hptr 0, .lst la m false nl] fun d1 f0 f1 => stp c t n D d1 (a1 sLV f0 f1) fun d2 v0 v1 =>
        ifK (ca d2 (A26 at_ x v0 v1)) (byB (!leI 0 at_) (err6 ca ea at_ (Da d2 (A26 at_ x v0 v1)) (ea d2 (A26 at_ x v0 v1)) v0 v1) (byB (leI (.ofNat m) at_) (err6 ca ea at_ (Da d2 (A26 at_ x v0 v1)) (ea d2 (A26 at_ x v0 v1)) v0 v1)
          (byB (!eqI (ea d2 (A26 at_ x v0 v1)) 0) N4 (byB (!eqI (ta d2 (A26 at_ x v0 v1)) 3) N4
            (L6 c c3 ca t n t3 n3 ta na ea D D3 Da Tryz.prog 300 (tVec la m nl at_ x 0) (sVec (Da d2 (A26 at_ x v0 v1)) f0 f1 v0 v1 at_ x (ta d2 (A26 at_ x v0 v1)) (na d2 (A26 at_ x v0 v1))))))))))))))  := by kernel_rfl
end
end Go.Am.Sto
end
section
set_option autoImplicit false
set_option maxRecDepth 100000
namespace Go.Am.Sto
open Go Go.Am Go.Proofs

section
variable (c c3 ca : Hid → List AV → Bool) (t n t3 n3 ta na ea : Hid → List AV → Int) (D D3 Da : Hid → List AV → Hid)
variable (la : List AV) (m : Nat) (nl : Bool) (at_ x : Int)
def exit6 (d : Hid) : Option AV :=
  stp c t n D d (a1 nBox 4 at_) fun d b0 b1 => ifK (sm (aV 4 at_) && (sm (aV 4 at_) && true)) (stp c t n D d (a2 nCons 4 at_ 4 at_) fun d p0 p1 => stp c t n D d (a2 nSB b0 b1 4 x) fun d _ _ => stp c t n D d (a2 nSC p0 p1 4 x) fun d _ _ =>
    stp c t n D d (a1 nUn b0 b1) fun d u0 u1 => ifK (sm (aV 4 x) && true) (byB (same2 u0 4 u1 x) (stp c t n D d (a1 nCar p0 p1) fun d c0 c1 => ifK (sm (aV 4 at_) && true) (byB (same2 c0 4 c1 at_)
      (stp c t n D d (a1 nCdr p0 p1) fun _ e0 e1 => ifK (sm (aV 4 x) && true) (some (.bool (same2 e0 4 e1 x)))) N4)) N4))
abbrev rnd6 (P : Program) (N i : Nat) (d : Hid) (f0 f1 v0 v1 w0 w1 want : Int) : Option AV :=
  stp c t n D d (a2 nVR v0 v1 4 (.ofNat i)) fun d y0 y1 => byB (!eqI y0 4) N4 (byB (!eqI y1 want) N4 (ifK (AV.under 7 (.lst la m false nl)) (L6 c c3 ca t n t3 n3 ta na ea D D3 Da P N (tVec la m nl at_ x (IntKind.i64.wrap (.ofNat i + 1))) (sVec d f0 f1 v0 v1 at_ x w0 w1))))
theorem step6 (N i : Nat) (d : Hid) (f0 f1 v0 v1 w0 w1 : Int) : L6 c c3 ca t n t3 n3 ta na ea D D3 Da Tryz.prog (N + 1) (tVec la m nl at_ x (.ofNat i)) (sVec d f0 f1 v0 v1 at_ x w0 w1) =
    byB (!leI (.ofNat m) (.ofNat i)) (ifK (Nat.blt i m && nonNil la) (opt1 .i64 (fun a => byB (eqI (.ofNat i) at_) (rnd6 c c3 ca t n t3 n3 ta na ea D D3 Da la m nl at_ x Tryz.prog N i d f0 f1 v0 v1 w0 w1 x) (rnd6 c c3 ca t n t3 n3 ta na ea D D3 Da la m nl at_ x Tryz.prog N i d f0 f1 v0 v1 w0 w1 a)) (la[i * 1]?)))
      (exit6 c t n D at_ x d) := by kernel_rfl
end
end Go.Am.Sto
end
section
set_option autoImplicit false
set_option maxRecDepth 100000
namespace Go.Am.Sto
open Go Go.Am Go.Proofs

def valO2 (d : Hid) (ar : List AV) : Option (V2 × Hid) := isVal (P10v d ar)
def valC2 (d : Hid) (ar : List AV) : Bool := (valO2 d ar).isSome
def valT2 (d : Hid) (ar : List AV) : Int := match valO2 d ar with | some p => p.1.1 | none => 0
def valN2 (d : Hid) (ar : List AV) : Int := match valO2 d ar with | some p => p.1.2 | none => 0
def valD2 (d : Hid) (ar : List AV) : Hid := match valO2 d ar with | some p => p.2 | none => d
theorem k10r : MethOk Tryz.prog G2 10 (valF valC2 valT2 valN2 valD2) := meth_mono k10v2 fun d ar x d' h => by
  unfold valF at h
  simp only [Option.some.injEq, Prod.mk.injEq] at h
  obtain ⟨h1, rfl, rfl⟩ := h
  unfold valC2 at h1
  obtain ⟨q, hq⟩ := Option.isSome_iff_exists.1 h1
  rw [isVal_some hq, valT2, valN2, valD2, hq]
theorem t14g (cn : List Nat → Bool) (num : List Nat → Int) (c : Hid → List AV → Bool) (t n : Hid → List AV → Int) (D : Hid → List AV → Hid) (d : Hid) (nm : List Nat) (cs : List AV) (k : Nat) (tt nl : Bool) :
    bodyY Tryz.prog G2 (X14 c t n D) (Y14 cn num c t n D) 5 8 noLive Res.meth? 5 Tryz.prog.funcs[14]? [.hptr 0, .str nm, .lst cs k tt nl] (St.one d) =
    ifK (cn nm) (ifK (AV.plain (.lst cs k tt nl)) (ifK (c d [.hptr 0, .int .i64 (num nm), .lst cs k tt nl])
      (some (val (t d [.hptr 0, .int .i64 (num nm), .lst cs k tt nl]) (n d [.hptr 0, .int .i64 (num nm), .lst cs k tt nl]), D d [.hptr 0, .int .i64 (num nm), .lst cs k tt nl])))) := by kernel_rfl
theorem kX14b : KnownOk Tryz.prog G2 (X14 valC2 valT2 valN2 valD2) := ((KnownOk.none _ _).add k10r).add fun ar s E w vs h hG ha => k19 ar s E w vs h (G2_0 hG) ha
theorem kY14b {β : Type} : KnownKOk (X14 valC2 valT2 valN2 valD2) (Y14 cnO numOf valC2 valT2 valN2 valD2 : KnownK β) := addH' (addK (KnownKOk.none _) 10 _) 19 fun ar s kr kr' h => by
  unfold numK
  split
  · rename_i nm
    refine Le.ifK fun hc => ?_
    have : pureX F19 [.str nm] s = .ret (.tup [.int .i64 (numOf nm), .bool true]) s := by
      unfold pureX F19
      simp only
      rw [cond_of_true hc]
    rw [this]
    exact h _
  · exact .none _
def cRn (d : Hid) (ar : List AV) : Bool := match ar with
  | [.hptr 0, .str nm, .lst cs k tt nl] => leI 0 (numOf nm) && (AV.plains cs && valC2 d [.hptr 0, .int .i64 (numOf nm), .lst cs k tt nl])
  | _ => false
def tRn (d : Hid) (ar : List AV) : Int := valT2 d (pAr14 ar)
def nRn (d : Hid) (ar : List AV) : Int := valN2 d (pAr14 ar)
def DRn (d : Hid) (ar : List AV) : Hid := valD2 d (pAr14 ar)
theorem k14r : MethOk Tryz.prog G2 14 (valG cRn tRn nRn DRn) := meth_known (D := noLive) (m := 5) (loops := 5) (n := 8) hm hn G2_plain kX14b kY14b fun d ar x d' hF => by
  unfold valG at hF
  simp only [Option.some.injEq, Prod.mk.injEq] at hF
  obtain ⟨h1, rfl, rfl⟩ := hF
  unfold cRn at h1
  split at h1
  · rename_i nm cs k tt nl
    obtain ⟨p1, h1⟩ := Bool.and_eq_true_iff.1 h1
    obtain ⟨p2, p3⟩ := Bool.and_eq_true_iff.1 h1
    refine (t14g cnO numOf valC2 valT2 valN2 valD2 d nm cs k tt nl).trans ?_
    rw [show cnO nm = true from p1, show AV.plain (.lst cs k tt nl) = true from p2, p3]
    rfl
  · cases h1

/-- a result with its error, taken apart -/
def isVe : Option (Bool × AV × Hid) → Option (V2 × Int × Hid)
  | some (true, .tup [.agg [.int .i64 t, .int .i64 n], .int .i64 e], d) => some ((t, n), e, d)
  | _ => none
theorem isVe_some {p : Option (Bool × AV × Hid)} {q : V2 × Int × Hid} (h : isVe p = some q) : p = some (true, .tup [.agg [.int .i64 q.1.1, .int .i64 q.1.2], .int .i64 q.2.1], q.2.2) := by
  unfold isVe at h
  split at h
  · cases h; rfl
  · cases h
def veO (d : Hid) (ar : List AV) : Option (V2 × Int × Hid) := isVe (P10v d ar)
def cA (d : Hid) (ar : List AV) : Bool := (veO d ar).isSome
def tA (d : Hid) (ar : List AV) : Int := match veO d ar with | some p => p.1.1 | none => 0
def nA (d : Hid) (ar : List AV) : Int := match veO d ar with | some p => p.1.2 | none => 0
def eA (d : Hid) (ar : List AV) : Int := match veO d ar with | some p => p.2.1 | none => 0
def DA (d : Hid) (ar : List AV) : Hid := match veO d ar with | some p => p.2.2 | none => d
theorem k10a : MethOk Tryz.prog G2 10 (apV cA tA nA eA DA) := meth_mono k10v2 fun d ar x d' h => by
  unfold apV at h
  simp only [Option.some.injEq, Prod.mk.injEq] at h
  obtain ⟨h1, rfl, rfl⟩ := h
  unfold cA at h1
  obtain ⟨q, hq⟩ := Option.isSome_iff_exists.1 h1
  rw [isVe_some hq, tA, nA, eA, DA, hq]
abbrev XL6 : Known := X6 cRn c13 cA tRn nRn t13 n13 tA nA eA DRn D13' DA
abbrev YL6 {β : Type} : KnownK β := Y6 cRn c13 cA tRn nRn t13 n13 tA nA eA DRn D13' DA
theorem kX6 : KnownOk Tryz.prog G2 XL6 := ((((((KnownOk.none _ _).add fun ar s E w vs h hG ha => k8 ar s E w vs h (G2_0 hG) ha).add fun ar s E w vs h hG ha => k9 ar s E w vs h (G2_0 hG) ha).add (kM2 k13v)).add k14r).add fun ar s E w vs h hG ha => k19 ar s E w vs h (G2_0 hG) ha).add k10a
theorem kY6 {β : Type} : KnownKOk XL6 (YL6 : KnownK β) := addK (addP (addK (addK (KnownKOk.none _) 13 _) 14 _) 19 F19) 10 _

/-- what a call gives -/
def Stp (c : Hid → List AV → Bool) (t n : Hid → List AV → Int) (D : Hid → List AV → Hid) (d : Hid) (ar : List AV) (v : V2) (d' : Hid) : Prop := c d ar = true ∧ t d ar = v.1 ∧ n d ar = v.2 ∧ D d ar = d'
theorem stp_of {c : Hid → List AV → Bool} {t n : Hid → List AV → Int} {D : Hid → List AV → Hid} {d d' : Hid} {ar : List AV} {v : V2} (h : Stp c t n D d ar v d') (k : Hid → Int → Int → Option AV) : stp c t n D d ar k = k d' v.1 v.2 := by
  obtain ⟨h1, h2, h3, h4⟩ := h
  unfold stp
  rw [h1, h2, h3, h4]; rfl
theorem run_of {d d' : Hid} {nm : List Nat} {op : Int} {cs : List AV} {k : Nat} {tt nl : Bool} {v : V2} (hn : numOf nm = op) (h0 : leI 0 op = true) (hp : AV.plains cs = true)
    (h : P10v d [.hptr 0, .int .i64 op, .lst cs k tt nl] = some (true, getV (v, 0), d')) : Stp cRn tRn nRn DRn d [.hptr 0, .str nm, .lst cs k tt nl] v d' := by
  subst hn
  have e : valO2 d [.hptr 0, .int .i64 (numOf nm), .lst cs k tt nl] = some (v, d') := by unfold valO2; rw [h]; rfl
  refine ⟨?_, ?_, ?_, ?_⟩
  · show (leI 0 (numOf nm) && (AV.plains cs && valC2 d [.hptr 0, .int .i64 (numOf nm), .lst cs k tt nl])) = true
    rw [h0, hp, valC2, e]; rfl
  · show valT2 d [.hptr 0, .int .i64 (numOf nm), .lst cs k tt nl] = _
    rw [valT2, e]
  · show valN2 d [.hptr 0, .int .i64 (numOf nm), .lst cs k tt nl] = _
    rw [valN2, e]
  · show valD2 d [.hptr 0, .int .i64 (numOf nm), .lst cs k tt nl] = _
    rw [valD2, e]
theorem ap_of {d d' : Hid} {ar : List AV} {v : V2} {e : Int} (h : P10v d ar = some (true, getV (v, e), d')) : cA d ar = true ∧ tA d ar = v.1 ∧ nA d ar = v.2 ∧ eA d ar = e ∧ DA d ar = d' := by
  have q : veO d ar = some (v, e, d') := by unfold veO; rw [h]; rfl
  refine ⟨?_, ?_, ?_, ?_, ?_⟩
  · rw [cA, q]; rfl
  · rw [tA, q]
  · rw [nA, q]
  · rw [eA, q]
  · rw [DA, q]
end Go.Am.Sto
end
