import Derived.Test.YtlibahklbbachaaGreatDoorRf27
import Derived.Test.YtlibahklbbachaaGreatDoorRf28
import Derived.Test.YtlibahklbbachaaGreatDoorRf20
import Derived.Test.YtlibahklbbachaaGreatDoorRf21
import Derived.Test.YtlibahklbbachaaGreatDoorRf25
set_option autoImplicit false
set_option maxRecDepth 100000
set_option linter.unusedSimpArgs false
set_option linter.unusedVariables false
section
namespace Go.Am.Sto
open Go Go.Am Go.Proofs
section
variable (sn : Bool → List AV → Nat → Bool) (ad : Bool → List AV → Nat → Bool → Bool → Bool → List AV → Nat → Bool → Bool → Bool) (ag an : Bool → List AV → Nat → Bool → Bool → Bool → List AV → Nat → Bool → Bool → Bool) (ar : Bool → List AV → Nat → Bool → Bool → Bool → List AV → Nat → Bool → Bool → List AV)
 (ak : Bool → List AV → Nat → Bool → Bool → Bool → List AV → Nat → Bool → Bool → Nat) (ae : Bool → List AV → Nat → Bool → Bool → Bool → List AV → Nat → Bool → Bool → Int)
def b72 (P : Program) (ng : Bool) (a : List AV) (n : Nat) (t1 l1 : Bool) (mg : Bool) (b : List AV) (m : Nat) (t2 l2 : Bool) : Option AV :=
 bodyY P G0 (X72 sn ad ag an ar ak ae) (Y72 sn ad ag an ar ak ae) 0 8 noLive Res.freshW? 3 P.funcs[72]? [.agg [.bool ng, .lst a n t1 l1], .agg [.bool mg, .lst b m t2 l2]] St.empty
variable (a : List AV) (n : Nat) (t1 l1 : Bool) (b : List AV) (m : Nat) (t2 l2 : Bool)
def addT (ng mg : Bool) : Option AV := ifK (AV.plain (.agg [.bool ng, .lst a n t1 l1])) (ifK (AV.plain (.agg [.bool mg, .lst b m t2 l2])) (ifK (ad ng a n t1 l1 mg b m t2 l2) (ifK (AV.plain (.lst (ar ng a n t1 l1 mg b m t2 l2) (ak ng a n t1 l1 mg b m t2 l2) false (an ng a n t1 l1 mg b m t2 l2)))
 (numR3 (ag ng a n t1 l1 mg b m t2 l2) (ar ng a n t1 l1 mg b m t2 l2) (ak ng a n t1 l1 mg b m t2 l2) false (an ng a n t1 l1 mg b m t2 l2) (ae ng a n t1 l1 mg b m t2 l2)))))
theorem t72f (ng : Bool) : b72 sn ad ag an ar ak ae Tryz.prog ng a n t1 l1 false b m t2 l2 = bothP sn a n t1 l1 b m t2 l2 ng false (ifK (AV.same (.agg [.bool ng, .lst a n t1 l1]) (.agg [.bool ng, .lst a n t1 l1]) && true) (addT ad ag an ar ak ae a n t1 l1 b m t2 l2 ng (!leI (.ofNat m) 0))) := by kernel_rfl
theorem t72t (ng : Bool) : b72 sn ad ag an ar ak ae Tryz.prog ng a n t1 l1 true b m t2 l2 = bothP sn a n t1 l1 b m t2 l2 ng true (ifK (AV.same (.agg [.bool ng, .lst a n t1 l1]) (.agg [.bool ng, .lst a n t1 l1]) && true) (addT ad ag an ar ak ae a n t1 l1 b m t2 l2 ng false)) := by kernel_rfl
end
section
variable (P : Program)
abbrev adS (ng : Bool) (a : List AV) (n : Nat) (t1 l1 mg : Bool) (b : List AV) (m : Nat) (t2 l2 : Bool) : Bool := isN (b70s P ng a n t1 l1 mg b m t2 l2)
abbrev agS (ng : Bool) (a : List AV) (n : Nat) (t1 l1 mg : Bool) (b : List AV) (m : Nat) (t2 l2 : Bool) : Bool := gO (b70s P ng a n t1 l1 mg b m t2 l2)
abbrev anS (ng : Bool) (a : List AV) (n : Nat) (t1 l1 mg : Bool) (b : List AV) (m : Nat) (t2 l2 : Bool) : Bool := nO (b70s P ng a n t1 l1 mg b m t2 l2)
abbrev arS (ng : Bool) (a : List AV) (n : Nat) (t1 l1 mg : Bool) (b : List AV) (m : Nat) (t2 l2 : Bool) : List AV := rO (b70s P ng a n t1 l1 mg b m t2 l2)
abbrev akS (ng : Bool) (a : List AV) (n : Nat) (t1 l1 mg : Bool) (b : List AV) (m : Nat) (t2 l2 : Bool) : Nat := kO (b70s P ng a n t1 l1 mg b m t2 l2)
abbrev aeS (ng : Bool) (a : List AV) (n : Nat) (t1 l1 mg : Bool) (b : List AV) (m : Nat) (t2 l2 : Bool) : Int := eO (b70s P ng a n t1 l1 mg b m t2 l2)
abbrev F70s : List AV → Option (Bool × AV) := F70v (adS P) (agS P) (anS P) (arS P) (akS P) (aeS P)
abbrev b72s (ng : Bool) (a : List AV) (n : Nat) (t1 l1 : Bool) (mg : Bool) (b : List AV) (m : Nat) (t2 l2 : Bool) : Option AV := b72 sndG (adS P) (agS P) (anS P) (arS P) (akS P) (aeS P) P ng a n t1 l1 mg b m t2 l2
def F72 : List AV → Option (Bool × AV)
 | [.agg [.bool ng, .lst a n t1 l1], .agg [.bool mg, .lst b m t2 l2]] => some (isN (b72s P ng a n t1 l1 mg b m t2 l2), valM (b72s P ng a n t1 l1 mg b m t2 l2))
 | _ => none
end
theorem same_us : ∀ {l : List Int}, AV.sames (u32s l) (u32s l) = true
 | [] => rfl
 | x :: l => by
  show (AV.same (.int .u32 x) (.int .u32 x) && AV.sames (u32s l) (u32s l)) = true
  rw [same_us (l := l), show AV.same (.int .u32 x) (.int .u32 x) = (kindEq .u32 .u32 && eqI x x) from rfl, eqI_self]; rfl
theorem same_num {ng t nl : Bool} {n : Nat} {l : List Int} : AV.same (.agg [.bool ng, .lst (u32s l) n t nl]) (.agg [.bool ng, .lst (u32s l) n t nl]) = true := by
 show ((bif ng then ng else !ng) && ((n.beq n && ((bif t then t else !t) && ((bif nl then nl else !nl) && AV.sames (u32s l) (u32s l)))) && true)) = true
 rw [same_us, Nat.beq_refl]
 cases ng <;> cases t <;> cases nl <;> rfl
theorem Num3.same {i : Int} {ng : Bool} {a : List AV} {n : Nat} {nl t : Bool} (h : Num3 i ng a n nl) : AV.same (.agg [.bool ng, .lst a n t nl]) (.agg [.bool ng, .lst a n t nl]) = true := by
 obtain ⟨_, _, e⟩ := lim_ints h.lim
 rw [← e]; exact same_num
theorem k70s : ZOk Tryz.prog G0 70 (F70s Tryz.prog) := z_mono k70 fun ar x hF => by
 unfold F70s F70v at hF
 split at hF
 ·exact hF
 ·cases hF
theorem kX72 : KnownOk Tryz.prog G0 (X72 sndG (adS Tryz.prog) (agS Tryz.prog) (anS Tryz.prog) (arS Tryz.prog) (akS Tryz.prog) (aeS Tryz.prog)) := ((KnownOk.none _ _).add k35v).add k70s
theorem kY72 {β : Type} : KnownKOk (X72 sndG (adS Tryz.prog) (agS Tryz.prog) (anS Tryz.prog) (arS Tryz.prog) (akS Tryz.prog) (aeS Tryz.prog)) (Y72 sndG (adS Tryz.prog) (agS Tryz.prog) (anS Tryz.prog) (arS Tryz.prog) (akS Tryz.prog) (aeS Tryz.prog) : KnownK β) := addH' (addH' (KnownKOk.none _) 35 (zK_le _)) 70 (zK_le _)
theorem k72 : WOk Tryz.prog G0 72 (F72 Tryz.prog) := w_known (D := noLive) (m := 3) (loops := 0) (n := 8) hm hn G0_plain kX72 kY72 fun ar x hF => by
 unfold F72 at hF
 split at hF
 case h_2 => cases hF
 rename_i ng a n t1 l1 mg b m t2 l2
 simp only [Option.some.injEq, Prod.mk.injEq] at hF
 obtain ⟨h1, rfl⟩ := hF
 exact isN_eq h1
theorem Num3.neg {i : Int} {mg g : Bool} {b : List AV} {m : Nat} {nl : Bool} (h : Num3 i mg b m nl) (hg : g = true → m ≠ 0) : Num3 i g b m nl := by
 refine ⟨?_, h.le, h.top, h.nl⟩
 have hs := h.snd
 unfold sndG at hs ⊢
 cases m with
 | zero =>
  cases g with
  | false => simpa using (by simpa using hs : _ ∧ _).1
  | true => exact absurd rfl (hg rfl)
 | succ k => exact hs
theorem sub_ok {i : Int} (hi : 0 ≤ i ∧ i < 1000) {ng mg : Bool} {a b : List AV} {n m : Nat} {t1 t2 l1 l2 : Bool} (ha : Num3 i ng a n l1) (hb : Num3 0 mg b m l2) (hm : m ≤ 2) :
  ∃ g r k, b72s Tryz.prog ng a n t1 l1 mg b m t2 l2 = numR3 g r k false false 0 ∧ Num3 (i + 1) g r k false := by
 have key : ∀ mg' : Bool, Num3 0 mg' b m l2 → ∃ g r k, addT (adS Tryz.prog) (agS Tryz.prog) (anS Tryz.prog) (arS Tryz.prog) (akS Tryz.prog) (aeS Tryz.prog) a n t1 l1 b m t2 l2 ng mg' = numR3 g r k false false 0 ∧ Num3 (i + 1) g r k false := by
  intro mg' hb'
  obtain ⟨g, r, k, e, hN⟩ := add_ok (t1 := t1) (t2 := t2) hi ha hb' hm
  refine ⟨g, r, k, ?_, hN⟩
  unfold addT adS agS anS arS akS aeS
  rw [e]
  refine (ifK_t (show AV.plains [.bool ng, .lst a n t1 l1] = true from ?_) _).trans ?_
  ·show (true && (AV.plains a && true)) = true
   rw [ha.plain]; rfl
  refine (ifK_t (show AV.plains [.bool mg', .lst b m t2 l2] = true from ?_) _).trans ?_
  ·show (true && (AV.plains b && true)) = true
   rw [hb.plain]; rfl
  refine (ifK_t rfl _).trans ?_
  exact ifK_t hN.plain _
 cases mg with
 | false =>
  rw [b72s, t72f, bothP_t ha hb, ha.same]
  refine key _ (hb.neg fun h => ?_)
  intro h0; subst h0
  rw [show leI (.ofNat 0) 0 = true from leI_t (by simp)] at h; cases h
 | true =>
  rw [b72s, t72t, bothP_t ha hb, ha.same]
  exact key false (hb.neg fun h => by cases h)
end Go.Am.Sto
end
section
namespace Go.Am.Sto
open Go Go.Am Go.Proofs
section
variable (sn : Bool → List AV → Nat → Bool) (cz : List AV → Nat → List AV → Nat → Bool → Bool) (sz : List AV → Nat → List AV → Nat → Int)
variable (a : List AV) (n : Nat) (t1 l1 : Bool) (b : List AV) (m : Nat) (t2 l2 : Bool)
theorem t76ff : b76 sn cz sz Tryz.prog false a n t1 l1 false b m t2 l2 = bothP sn a n t1 l1 b m t2 l2 false false (pl2 a n t1 l1 b m t2 l2 (ifK (cz a n b m l1) (some (.int .i64 (sz a n b m))))) := by kernel_rfl
theorem t76tt : b76 sn cz sz Tryz.prog true a n t1 l1 true b m t2 l2 = bothP sn a n t1 l1 b m t2 l2 true true (pl2 b m t2 l2 a n t1 l1 (ifK (cz b m a n l2) (some (.int .i64 (sz b m a n))))) := by kernel_rfl
theorem t76ft : b76 sn cz sz Tryz.prog false a n t1 l1 true b m t2 l2 = bothP sn a n t1 l1 b m t2 l2 false true (some (.int .i64 1)) := by kernel_rfl
theorem t76tf : b76 sn cz sz Tryz.prog true a n t1 l1 false b m t2 l2 = bothP sn a n t1 l1 b m t2 l2 true false (some (.int .i64 (-1))) := by kernel_rfl
end
def isI (x : Option AV) : Bool := match x with | some (.int .i64 _) => true | _ => false
def iO (x : Option AV) : Int := match x with | some (.int .i64 z) => z | _ => 0
theorem isI_eq {x : Option AV} (h : isI x = true) : x = some (.int .i64 (iO x)) := by
 unfold isI at h
 split at h
 ·rfl
 ·cases h
abbrev b76s (P : Program) (ng : Bool) (a : List AV) (n : Nat) (t1 l1 : Bool) (mg : Bool) (b : List AV) (m : Nat) (t2 l2 : Bool) : Option AV := b76 sndG cpS szS P ng a n t1 l1 mg b m t2 l2
def F76 (P : Program) : List AV → Option (Bool × AV)
 | [.agg [.bool ng, .lst a n t1 l1], .agg [.bool mg, .lst b m t2 l2]] => some (isI (b76s P ng a n t1 l1 mg b m t2 l2), .int .i64 (iO (b76s P ng a n t1 l1 mg b m t2 l2)))
 | _ => none
theorem kX76 : KnownOk Tryz.prog G0 (X76 sndG cpS szS) := ((KnownOk.none _ _).add k35v).add k134v
theorem kY76 {β : Type} : KnownKOk (X76 sndG cpS szS) (Y76 sndG cpS szS : KnownK β) := addH' (addH' (KnownKOk.none _) 35 (zK_le _)) 134 (zK_le _)
theorem k76 : ZOk Tryz.prog G0 76 (F76 Tryz.prog) := z_known (D := noLive) (m := 3) (loops := 0) (n := 8) hm hn G0_plain kX76 kY76 fun ar x hF => by
 unfold F76 at hF
 split at hF
 case h_2 => cases hF
 rename_i ng a n t1 l1 mg b m t2 l2
 simp only [Option.some.injEq, Prod.mk.injEq] at hF
 obtain ⟨h1, rfl⟩ := hF
 exact isI_eq h1
theorem cmp_ok {i j : Int} {ng mg : Bool} {a b : List AV} {n m : Nat} {t1 t2 l1 l2 : Bool} (ha : Num3 i ng a n l1) (hb : Num3 j mg b m l2) :
  ∃ c, b76s Tryz.prog ng a n t1 l1 mg b m t2 l2 = some (.int .i64 c) := by
 have hcp : cpS a n b m l1 = true := by unfold cpS; rw [ha.lim, hb.lim]; rfl
 have hcq : cpS b m a n l2 = true := by unfold cpS; rw [ha.lim, hb.lim]; rfl
 cases ng with
 | false =>
  cases mg with
  | false => rw [b76s, t76ff, bothP_t ha hb, pl2_t ha.plain hb.plain, hcp]; exact ⟨_, rfl⟩
  | true => rw [b76s, t76ft, bothP_t ha hb]; exact ⟨_, rfl⟩
 | true =>
  cases mg with
  | false => rw [b76s, t76tf, bothP_t ha hb]; exact ⟨_, rfl⟩
  | true => rw [b76s, t76tt, bothP_t ha hb, pl2_t hb.plain ha.plain, hcq]; exact ⟨_, rfl⟩
end Go.Am.Sto
end
section
namespace Go.Am.Sto
open Go Go.Am Go.Proofs
section
variable (sn : Bool → List AV → Nat → Bool) (sc sb : Bool → List AV → Nat → Bool → Bool) (sv : Bool → List AV → Nat → Bool → Int)
def F36w : List AV → Option (Bool × AV)
 | [.agg [.bool g, .lst r k _ nl]] => some (sc g r k nl, .tup [.int .i64 (sv g r k nl), .bool (sb g r k nl)])
 | _ => none
def F37 : List AV → Option AV
 | [.int .i64 z] => some (.agg [.int .i64 4, .int .i64 z])
 | _ => none
def X18 : Known := (((Known.none.add 35 (zX (F35v sn))).add 36 (zX (F36w sc sb sv))).add 38 (methX F38u)).add 37 (pureX F37)
def Y18 {β : Type} : KnownK β := (((KnownK.none.add 35 (zK (F35v sn))).add 36 (zK (F36w sc sb sv))).add 38 (methK F38u)).add 37 (pureK F37)
def D18 : Live := fun i => match i with | 0 => .pack [0, 4, 9, 43, 44, 45] | _ => .all
def b18 (M : Nat) (P : Program) (d : Hid) (g : Bool) (r : List AV) (k : Nat) (t nl : Bool) : Option R := bodyY P G2 (X18 sn sc sb sv) (Y18 sn sc sb sv) 90 8 D18 Res.meth? M P.funcs[18]? [.hptr 0, .agg [.bool g, .lst r k t nl]] (St.one d)
def L18 (M : Nat) (P : Program) (rounds : Nat) : T → St → Option R := runLoop P G2 (X18 sn sc sb sv) (Y18 sn sc sb sv) 90 8 D18 Res.meth? M 18 (.pack [0, 4, 9, 43, 44, 45]) 5 rounds
def rowInt (r ty pos ext : Nat) (vals : List AV) : AObj := .row { vals := vals, root := r, pos := pos, ep := 0, fep := 0, ext := ext, solo := true, ty := ty }
def trInt (d : Hid) (g : Bool) (r : List AV) (k : Nat) (t nl : Bool) (s : Int) : Tr AObj := ((((Tr.nil.set 0 (.hid d)).set 1 (rowInt 1 47 0 2 [.bool g, .lst r k t nl])).set 2 (rowInt 2 29 0 2 [.int .i64 0, .int .i64 0])).set 3 (rowInt 3 29 0 2 [.int .i64 4, .int .i64 s])).set 4 (rowInt 4 29 0 2 [.int .i64 4, .int .i64 s])
def sInt0 (d : Hid) (g : Bool) (r : List AV) (k : Nat) (t nl : Bool) (s : Int) : St := ⟨5, trInt d g r k t nl s⟩
def sInt (d : Hid) (g : Bool) (r : List AV) (k : Nat) (t nl : Bool) (s : Int) (C : List AV) : St := ⟨6, (trInt d g r k t nl s).set 5 (rowInt 5 29 1 (1 + C.length) C)⟩
def tInt (r : List AV) (k : Nat) (t nl : Bool) (sl : AV) (i : Int) : T := tOf 61 [(0, .hptr 0), (4, .ptr 2 0), (9, sl), (43, .lst r k t nl), (44, .int .i64 (.ofNat k)), (45, .int .i64 i)]
def intT (d : Hid) (g : Bool) (r : List AV) (k : Nat) (t nl : Bool) (big : Option R) : Option R := ifK (AV.plain (.agg [.bool g, .lst r k t nl])) (ifK (sn g r k) (ifK (AV.plain (.agg [.bool g, .lst r k t nl])) (ifK (sc g r k nl)
 (byB (sb g r k nl) (byB (!leI (sv g r k nl) (-1000000000000000000)) (byB (!leI 1000000000000000000 (sv g r k nl)) (gV d 4 (sv g r k nl) 0) big) big) big))))
variable (M : Nat) (d : Hid) (r : List AV) (k : Nat) (t nl : Bool)
theorem start18f : b18 sn sc sb sv M Tryz.prog d false r k t nl = intT sn sc sb sv d false r k t nl (L18 sn sc sb sv M Tryz.prog M (tInt r k t nl (.sl 4 0 1 2 true) 0) (sInt0 d false r k t nl 0)) := by kernel_rfl
theorem start18t : b18 sn sc sb sv M Tryz.prog d true r k t nl = intT sn sc sb sv d true r k t nl (L18 sn sc sb sv M Tryz.prog M (tInt r k t nl (.sl 4 0 1 2 true) 0) (sInt0 d true r k t nl 1)) := by kernel_rfl
abbrev w64v (z : Int) : List AV := [.int .i64 4, .int .i64 (IntKind.i64.wrap z)]
theorem step18a (N : Nat) (g : Bool) (s : Int) : L18 sn sc sb sv M Tryz.prog (N + 1) (tInt r k t nl (.sl 4 0 1 2 true) 0) (sInt0 d g r k t nl s) =
  byB (!leI (.ofNat k) 0) (ifK (Nat.blt 0 k && nonNil r) (opt1 .u32 (fun z => ifK (AV.under 5 (.lst r k t nl)) (ifK (lowOkB (sInt0 d g r k t nl s) 5 5)
   (L18 sn sc sb sv M Tryz.prog N (tInt r k t nl (.sl 5 0 2 2 false) 1) (sInt d g r k t nl s ([.int .i64 4, .int .i64 s] ++ w64v z))))) (r[0]?)))
   (some (getV (mkOf d 5 [(4, s)]).1, (mkOf d 5 [(4, s)]).2)) := by kernel_rfl
theorem step18b (N : Nat) (g : Bool) (s : Int) (i len : Nat) (C : List AV) : L18 sn sc sb sv M Tryz.prog (N + 1) (tInt r k t nl (.sl 5 0 (len + 1) 2 false) (.ofNat i)) (sInt d g r k t nl s C) =
  byB (!leI (.ofNat k) (.ofNat i)) (ifK (Nat.blt i k && nonNil r) (opt1 .u32 (fun z => ifK (Nat.ble (len + 1 + 1) 1073741824) (optK (fun old =>
    ifK ((bif Nat.ble (1 + C.length) (1 + 0 + (len + 1) * 2) then 0 else 0 + 1).beq (bif Nat.ble (1 + C.length) (1 + 0 + (len + 1) * 2) then 0 else 0 + 1)) (optK (fun cs => ifK (nonNil cs && AV.plains cs) (ifK (AV.under 5 (.lst r k t nl)) (ifK (lowOkB (sInt d g r k t nl s C) 5 5)
    (L18 sn sc sb sv M Tryz.prog N (tInt r k t nl (.sl 5 0 (len + 1 + 1) 2 false) (IntKind.i64.wrap (.ofNat i + 1))) (sInt d g r k t nl s cs))))) (cutN ((len + 1 + 1) * 2) 0 (old ++ w64v z))))
   (cutN ((len + 1) * 2) 0 C))) (r[i * 1]?)))
   (optK (fun cs => ifK (Nat.blt 0 (len + 1) && AV.plains cs) (ifK (isCells cs (len + 1) && (Nat.ble (len + 1) 900 && (okAll d.rows.length (ofCells cs) && true))) (some (getV (mkOf d 5 (ofCells cs)).1, (mkOf d 5 (ofCells cs)).2)))) (cutN ((len + 1) * 2) 0 C)) := by kernel_rfl
end
end Go.Am.Sto
end
section
namespace Go.Am.Sto
open Go Go.Am Go.Proofs
section
variable (sn : Bool → List AV → Nat → Bool) (sc sb : Bool → List AV → Nat → Bool → Bool) (sv : Bool → List AV → Nat → Bool → Int)
theorem us_unders (nb : Nat) {r : List AV} (h : r.all isLimb = true) : AV.unders nb r = true := by
 induction r with
 | nil => rfl
 | cons a l ih =>
  rw [List.all_cons, Bool.and_eq_true] at h
  obtain ⟨z, rfl, _⟩ := isLimb_eq h.1
  show (AV.under nb (.int .u32 z) && AV.unders nb l) = true
  rw [ih h.2]; rfl
theorem limb_get {r : List AV} (h : r.all isLimb = true) (i : Nat) (hi : i < r.length) : ∃ z, r[i]? = some (.int .u32 z) ∧ 0 ≤ z ∧ z < 1000000000 := by
 obtain ⟨z, e, h1⟩ := isLimb_eq (List.all_eq_true.1 h r[i] (List.getElem_mem hi))
 exact ⟨z, by rw [List.getElem?_eq_getElem hi, e], h1⟩
theorem low_int (d : Hid) (g : Bool) {r : List AV} (k : Nat) (t nl : Bool) (s : Int) (C : List AV) (h : r.all isLimb = true) : lowOkB (sInt d g r k t nl s C) 5 5 = true := by
 show (true && (true && (true && ((true && (AV.unders 5 r && true)) && (true && true))))) = true
 rw [us_unders 5 h]; rfl
theorem low_int0 (d : Hid) (g : Bool) {r : List AV} (k : Nat) (t nl : Bool) (s : Int) (h : r.all isLimb = true) : lowOkB (sInt0 d g r k t nl s) 5 5 = true := by
 show (true && (true && (true && ((true && (AV.unders 5 r && true)) && (true && true))))) = true
 rw [us_unders 5 h]; rfl
def fW (a : AV) : V2 := match a with | .int .u32 z => (4, IntKind.i64.wrap z) | _ => (0, 0)
def bigL (s : Int) (r : List AV) : List V2 := (4, s) :: r.map fW
theorem bigL_ok (n : Nat) (s : Int) {r : List AV} (h : r.all isLimb = true) : okAll n (bigL s r) = true := by
 show (true && (r.map fW).all fun p => sndB n p.1 p.2) = true
 rw [Bool.true_and, List.all_map, List.all_eq_true]
 intro a ha
 obtain ⟨z, rfl, _⟩ := isLimb_eq (List.all_eq_true.1 h a ha)
 rfl
theorem bigL_take (s : Int) {r : List AV} {i : Nat} {z : Int} (h : r[i]? = some (.int .u32 z)) : bigL s (r.take i) ++ [(4, IntKind.i64.wrap z)] = bigL s (r.take (i + 1)) := by
 unfold bigL
 rw [List.take_add_one, h, List.map_append]; rfl
def madeBig (d : Hid) (sl : List V2) : Option R := some (getV (mkOf d 5 sl).1, (mkOf d 5 sl).2)
theorem main18 (M : Nat) (d : Hid) (g : Bool) {r : List AV} (k : Nat) (t nl : Bool) (s : Int) (hr : r.all isLimb = true) (hk : r.length = k) (h65 : k ≤ 65) : ∀ (rem i : Nat) (N : Nat), i + rem = k → rem < N →
  L18 sn sc sb sv M Tryz.prog N (tInt r k t nl (.sl 5 0 (i + 1) 2 false) (.ofNat i)) (sInt d g r k t nl s (cellsA (bigL s (r.take i)))) = madeBig d (bigL s r)
 | 0, i, N, h1, h3 => by
  obtain ⟨N, rfl⟩ : ∃ K, N = K + 1 := ⟨N - 1, by omega⟩
  have h2 : (bigL s (r.take i)).length = i + 1 := by unfold bigL; rw [List.length_cons, List.length_map, List.length_take]; omega
  have hti : r.take i = r := List.take_of_length_le (by omega)
  rw [step18b, leI_t (show Int.ofNat k ≤ Int.ofNat i by simp only [Int.ofNat_eq_natCast]; omega)]
  show optK _ _ = _
  rw [cellsA_cut (bigL s (r.take i)) (i + 1) h2]
  show ifK (Nat.blt 0 (i + 1) && AV.plains (cellsA (bigL s (r.take i)))) _ = _
  rw [cellsA_plains]
  show ifK (isCells (cellsA (bigL s (r.take i))) (i + 1) && _) _ = _
  rw [ofCells_cells, ← h2, isCells_cells, Nat.ble_eq_true_of_le (show (bigL s (r.take i)).length ≤ 900 by omega), hti, bigL_ok _ s hr]; rfl
 | rem + 1, i, N, h1, h3 => by
  obtain ⟨N, rfl⟩ : ∃ K, N = K + 1 := ⟨N - 1, by omega⟩
  have h2 : (bigL s (r.take i)).length = i + 1 := by unfold bigL; rw [List.length_cons, List.length_map, List.length_take]; omega
  obtain ⟨z, e1, z0, z1⟩ := limb_get hr i (by omega)
  have hne : nonNil r = true := by cases r with | nil => simp at hk; omega | cons => rfl
  have hb : Nat.blt i k = true := by
   have : i < k := by omega
   simpa using this
  rw [step18b, leI_f (show Int.ofNat i < Int.ofNat k by simp only [Int.ofNat_eq_natCast]; omega), hb, hne, Nat.mul_one, e1, Nat.ble_eq_true_of_le (show i + 1 + 1 ≤ 1073741824 by omega), cellsA_cut (bigL s (r.take i)) (i + 1) h2]
  show ifK _ _ = _
  rw [Nat.beq_refl]
  show optK _ (cutN ((i + 1 + 1) * 2) 0 (cellsA (bigL s (r.take i)) ++ w64v z)) = _
  have hc : cellsA (bigL s (r.take i)) ++ w64v z = cellsA (bigL s (r.take (i + 1))) := (cellsA_append (bigL s (r.take i)) [(4, IntKind.i64.wrap z)]).symm.trans (congrArg cellsA (bigL_take s e1))
  have hl : (bigL s (r.take (i + 1))).length = i + 1 + 1 := by unfold bigL; rw [List.length_cons, List.length_map, List.length_take]; omega
  rw [hc, cellsA_cut _ (i + 1 + 1) hl]
  show ifK (nonNil _ && AV.plains _) _ = _
  rw [cellsA_nonNil (by unfold bigL; simp), cellsA_plains]
  show ifK (AV.under 5 (.lst r k t nl)) _ = _
  rw [show AV.under 5 (.lst r k t nl) = true from us_unders 5 hr]
  show ifK (lowOkB _ 5 5) _ = _
  rw [low_int d g k t nl s _ hr, wrap_i i (by omega)]
  exact main18 M d g k t nl s hr hk h65 rem (i + 1) N (by omega) (by omega)
theorem loop18 (M : Nat) (d : Hid) (g : Bool) {r : List AV} (k : Nat) (t nl : Bool) (s : Int) (hr : r.all isLimb = true) (hk : r.length = k) (h65 : k ≤ 65) (N : Nat) (hN : k < N) :
  L18 sn sc sb sv M Tryz.prog N (tInt r k t nl (.sl 4 0 1 2 true) 0) (sInt0 d g r k t nl s) = madeBig d (bigL s r) := by
 obtain ⟨N, rfl⟩ : ∃ K, N = K + 1 := ⟨N - 1, by omega⟩
 rw [step18a]
 by_cases h0 : k = 0
 ·subst h0
  have : r = [] := List.eq_nil_of_length_eq_zero hk
  subst this; rfl
 ·obtain ⟨z, e1, z0, z1⟩ := limb_get hr 0 (by omega)
  have hne : nonNil r = true := by cases r with | nil => simp at hk; omega | cons => rfl
  have hb : Nat.blt 0 k = true := by
   have : 0 < k := by omega
   simpa using this
  rw [leI_f (show (0 : Int) < Int.ofNat k by simp only [Int.ofNat_eq_natCast]; omega), hb, hne, e1]
  show ifK (AV.under 5 (.lst r k t nl)) _ = _
  rw [show AV.under 5 (.lst r k t nl) = true from us_unders 5 hr]
  show ifK (lowOkB _ 5 5) _ = _
  rw [low_int0 d g k t nl s hr]
  have hc : ([.int .i64 4, .int .i64 s] ++ w64v z : List AV) = cellsA (bigL s (r.take 1)) := by
   have := bigL_take s (i := 0) e1
   rw [show (0 : Nat) + 1 = 1 from rfl] at this
   rw [← this]; rfl
  rw [show (ifK true _ : Option R) = _ from rfl, hc]
  exact main18 sn sc sb sv M d g k t nl s hr hk h65 (k - 1) 1 N (by omega) (by omega)
def intV (d : Hid) (g : Bool) (r : List AV) (k : Nat) (nl : Bool) : Option R := byB (sb g r k nl) (byB (!leI (sv g r k nl) (-1000000000000000000)) (byB (!leI 1000000000000000000 (sv g r k nl)) (gV d 4 (sv g r k nl) 0) (madeBig d (bigL (bif g then 1 else 0) r))) (madeBig d (bigL (bif g then 1 else 0) r))) (madeBig d (bigL (bif g then 1 else 0) r))
theorem int_tree (d : Hid) (g : Bool) {r : List AV} {k : Nat} {t nl : Bool} (h1 : r.all isLimb = true) (hk : r.length = k) (h65 : k ≤ 65) (h2 : sn g r k = true) (h3 : sc g r k nl = true) : b18 sn sc sb sv 80 Tryz.prog d g r k t nl = intV sb sv d g r k nl := by
 have hp : AV.plain (.agg [.bool g, .lst r k t nl]) = true := by
  show (true && (AV.plains r && true)) = true
  have : AV.plains r = true := by
   clear hk h2 h3
   induction r with
   | nil => rfl
   | cons a l ih =>
    rw [List.all_cons, Bool.and_eq_true] at h1
    obtain ⟨z, rfl, _⟩ := isLimb_eq h1.1
    show (AV.plain (.int .u32 z) && AV.plains l) = true
    rw [ih h1.2]; rfl
  rw [this]; rfl
 have key : ∀ big, intT sn sc sb sv d g r k t nl big = byB (sb g r k nl) (byB (!leI (sv g r k nl) (-1000000000000000000)) (byB (!leI 1000000000000000000 (sv g r k nl)) (gV d 4 (sv g r k nl) 0) big) big) big := fun big => by
  unfold intT
  rw [hp, h2, h3]; rfl
 cases g with
 | false => rw [start18f, key, loop18 sn sc sb sv 80 d false k t nl 0 h1 hk h65 80 (by omega)]; rfl
 | true => rw [start18t, key, loop18 sn sc sb sv 80 d true k t nl 1 h1 hk h65 80 (by omega)]; rfl
end
end Go.Am.Sto
end
section
namespace Go.Proofs
open Go.RowKit in
theorem Tryz.strconv_Atoi_range' (s : ByteArray) (hlim : s.size ≤ 281474976710656) (h : Lib.atoiAll s.data.toList = .range) (ev : Value) (w : World) (hv : w.cell? ⟨3, 0, none⟩ = some ev) (hev : ev = .nilIface ∨ ∃ te pe, ev = .iface te pe) :
  Calls Tryz.prog 59 #[.string s] w fun e w' => ∃ N, e = .returned (.tuple #[.int .i64 (Lib.atoiSat s.data.toList), .iface 223 (.pointer (some ⟨N, 0, none⟩))]) ∧ w.heap.size ≤ N ∧ w'.heap[N]? = some (.cells #[.string ⟨#[65, 116, 111, 105]⟩, .string s, ev] 259 (0, 0)) ∧ Below w.heap.size w w' :=
 Any.strconv_Atoi_range Tryz.laysC172 s hlim h ev w hv hev
end Go.Proofs
namespace Go.Am
open Go Go.Proofs
open Classical in
theorem read_knownE {P : Program} {G : Glob} (hm : P.follows .mixedOrders = true) (hn : NoNG P) (hp : GlobPlain G) {X : Known} (hX : KnownOk P G X) {D : Live} {m loops n : Nat} {f : FuncId} {F : List AV → Option AV}
  (hF : ∀ ar x, F ar = some x → x.flat = true ∧ ∃ Y : KnownK AV, KnownKOk X Y ∧ bodyY P G X Y loops n D Res.val? m P.funcs[f]? ar St.empty = some x) : ReadOk P G f F := by
 intro args s E w vs h hG ha
 unfold readX
 split
 ·rename_i ar har
  split
  ·rename_i x hx
   obtain ⟨h2, Y, hY, h3⟩ := hF ar x hx
   have k := read_knownY (D := D) (m := m) (loops := loops) (n := n) hm hn hp hX hY (f := f) (F := fun a => bif decide (a = ar) then some x else none) (fun a y hy => by
    by_cases e : a = ar
    ·subst e; rw [decide_eq_true rfl] at hy; cases hy; exact ⟨h2, h3⟩
    ·rw [decide_eq_false e] at hy; cases hy) args s E w vs h hG ha
   unfold readX at k
   simp only [har, decide_true, cond_true] at k
   exact k
  ·trivial
 ·trivial
end Go.Am
namespace Go.Am.Sto
open Go Go.Am Go.Proofs
section
variable (ac aok : List Nat → Bool) (av : List Nat → Int)
def X59 : List AV → St → Res := fun ar s => match ar with
 | [.str l] => bif ac l then (bif aok l then .ret (.tup [.int .i64 (av l), .nilifc]) s else .ret (.tup [.int .i64 (av l), .ifc 223 .undef]) s) else .fail
 | _ => .fail
def K59 {β : Type} (ar : List AV) (s : St) (kr : Res → Option β) : Option β := match ar with
 | [.str l] => ifK (ac l) (byB (aok l) (kr (.ret (.tup [.int .i64 (av l), .nilifc]) s)) (kr (.ret (.tup [.int .i64 (av l), .ifc 223 .undef]) s)))
 | _ => none
theorem K59_le {β : Type} (ar : List AV) (s : St) (kr kr' : Res → Option β) (h : ∀ r, Le (kr r) (kr' r)) : Le (K59 ac aok av ar s kr) (kr' (X59 ac aok av ar s)) := by
 unfold K59 X59
 split
 ·rename_i l
  refine Le.ifK fun hc => ?_
  rw [hc]
  cases hk : aok l with
  | true => exact h _
  | false => exact h _
 ·exact .none _
end
def atE (l : List Nat) : Lib.NumEnd Int := Lib.atoiAll (l.map UInt8.ofNat)
def ac59 (l : List Nat) : Bool := Nat.ble l.length 100 && (match atE l with | .ok _ => true | .range => true | _ => false)
def aok59 (l : List Nat) : Bool := match atE l with | .ok _ => true | _ => false
def av59 (l : List Nat) : Int := match atE l with | .ok v => v | _ => Lib.atoiSat (l.map UInt8.ofNat)
theorem k59r : ∀ (args : List AV) (s : St) (E : Env) (w : World) (vs : List Value), Rel E s w → GlobOk E G2 w → VRL E args vs → ResOk Tryz.prog E s w 59 vs (X59 ac59 aok59 av59 args s) := by
 intro args s E w vs h hG ha
 unfold X59
 split
 case h_2 => trivial
 rename_i l
 cases hc : ac59 l with
 | false => trivial
 | true =>
  have hc' := hc
  unfold ac59 at hc'
  rw [Bool.and_eq_true] at hc'
  have h100 : l.length ≤ 100 := Nat.le_of_ble_eq_true hc'.1
  cases hk : aok59 l with
  | true =>
   have hat : ∃ v, atE l = .ok v := by
    unfold aok59 at hk
    split at hk
    ·exact ⟨_, by assumption⟩
    ·cases hk
   obtain ⟨v, hv⟩ := hat
   have hF : F59 [.str l] = some (.tup [.int .i64 (av59 l), .nilifc]) := by
    have e1 : atoiV l = some v := by
     unfold atoiV
     rw [show Lib.atoiAll (l.map UInt8.ofNat) = .ok v from hv]
    have e2 : av59 l = v := by unfold av59; rw [hv]
    unfold F59
    simp only [e1, e2]
    rw [Nat.ble_eq_true_of_le h100]; rfl
   have k := k59 [.str l] s E w vs h hG ha
   unfold pureX at k
   rw [hF] at k
   exact k
  | false =>
   have hat : atE l = .range := by
    unfold aok59 at hk
    have h2 := hc'.2
    rcases hx : atE l with v | _ | _
    ·rw [hx] at hk; cases hk
    ·rw [hx] at h2; cases h2
    ·rfl
   have hav : av59 l = Lib.atoiSat (l.map UInt8.ofNat) := by unfold av59; rw [hat]
   show ResOk Tryz.prog E s w 59 vs (.ret (.tup [.int .i64 (av59 l), .ifc 223 .undef]) s)
   rw [hav]
   cases ha with
   | cons h1 h2 =>
    cases h2
    cases h1 with
    | str sb =>
     unfold atE at hat
     rw [bytes_back] at hat ⊢
     simp only [List.length_map, Array.length_toList] at h100
     obtain ⟨us, g1, g2⟩ := hG.1.1 3 [.ifc 275 .undef] rfl
     obtain ⟨ev, hev⟩ : ∃ pe, us = [.iface 275 pe] := by
      cases g1 with
      | cons g1 g3 => cases g3; cases g1; exact ⟨_, rfl⟩
     subst hev
     have hcell := h.z _ _ _ (g2 0 _ rfl)
     refine .inl ⟨⟨Tryz.f59, Tryz.func59, rfl, hn 59 _ Tryz.func59⟩, (Tryz.strconv_Atoi_range' sb (by have : sb.size = sb.data.size := rfl; omega) hat _ w hcell (.inr ⟨_, _, rfl⟩)).mono fun e w' ⟨N, he, _, _, hb⟩ => ⟨_, E, he, ?_, .tup (.cons (.int _ _) (.cons (.ifc (.undef _)) .nil))⟩⟩
     exact Step.fresh h (fun b hb' => hb.block b hb') hb.os hb.tape hb.output hb.size
/-! ## The text of three limbs -/
def txt3 (g : Bool) : List AV → List Nat
 | [.int .u32 a, .int .u32 b, .int .u32 c] => sg g ++ itoaN c ++ List.replicate (9 - (itoaN b).length) 48 ++ itoaN b ++ List.replicate (9 - (itoaN a).length) 48 ++ itoaN a
 | _ => []
def gTxt3 (g : Bool) (r : List AV) (k : Nat) (nl : Bool) : Bool := sndG g r k && (Nat.beq k 3 && !nl)
theorem kX60w : KnownOk Tryz.prog G2 (X60w sndG itoaN) := (((kG2 kN).add fun ar s E w vs h hG ha => k35g ar s E w vs h (G2_0 hG) ha).add (fun ar s E w vs h hG ha => k128 ar s E w vs h (G2_0 hG) ha)).add (by rw [itF_eq]; exact k126)
theorem itJ_le {β : Type} (x j : Nat) (ar : List AV) (s : St) (kr kr' : Res → Option β) (h : ∀ r, Le (kr r) (kr' r)) : Le (itJ x j itoaN ar s kr) (kr' (pureX (itF itoaN) ar s)) := by
 unfold itJ
 split
 ·rename_i n
  refine Le.ifK fun hc => ?_
  have : pureX (itF itoaN) [.int .i64 n] s = .ret (.str (itoaN n)) s := by
   unfold pureX itF
   simp only
   rw [hc]; rfl
  rw [this]
  cases s.next.beq x with
  | true => exact fun y hy => h _ y (casJ_le j (itoaN n) (fun l => kr (.ret (.str l) s)) y hy)
  | false => exact fun y hy => h _ y (cas9_le (itoaN n) (fun l => kr (.ret (.str l) s)) y hy)
 ·exact .none _
theorem kY60w {β : Type} (x j : Nat) : KnownKOk (X60w sndG itoaN) (Y60w x j sndG itoaN : KnownK β) := addH' (addP (addH' (KnownKOk.none _) 35 (zK_le _)) 128 F128) 126 (itJ_le x j)
theorem isLimb_inR {z : Int} (h : 0 ≤ z ∧ z < 1000000000) : inR z = true := inR_iff.2 ⟨h.1, by omega⟩
theorem three {g : Bool} {r : List AV} (h : sndG g r 3 = true) : ∃ a b c, r = [.int .u32 a, .int .u32 b, .int .u32 c] ∧ inR a = true ∧ inR b = true ∧ inR c = true := by
 unfold sndG at h
 rw [Bool.and_eq_true, Bool.and_eq_true] at h
 obtain ⟨_, h5, h6⟩ := limbsOk_eq h.2.1
 match r, h5 with
 | [x, y, z], _ =>
  obtain ⟨a, e1, a1⟩ := h6 0 (by omega)
  obtain ⟨b, e2, b1⟩ := h6 1 (by omega)
  obtain ⟨c, e3, c1⟩ := h6 2 (by omega)
  cases e1; cases e2; cases e3
  exact ⟨a, b, c, rfl, isLimb_inR a1, isLimb_inR b1, isLimb_inR c1⟩
theorem numT3_ok (g : Bool) {a b c : Int} (ha : inR a = true) (hb : inR b = true) (hc : inR c = true) : numT3 itoaN a b c (itoaN c).length (sg g) = some (.str (txt3 g [.int .u32 a, .int .u32 b, .int .u32 c])) := by
 unfold numT3
 rw [inR_w ha, inR_w hb, inR_w hc, ha, hb, hc, casJ'_eq (itoaN_ne hc) (itoaN_len hc), cas9'_eq (itoaN_ne hb) (itoaN_len hb), cas9'_eq (itoaN_ne ha) (itoaN_len ha)]
 have rep : ∀ n, ∀ c ∈ List.replicate n 48, c < 256 := fun n c hc => by have := (List.mem_replicate.1 hc).2; omega
 exact strR_ok (lt_app (lt_app (lt_app (lt_app (lt_app (sg_lt g) (itoaN_lt c)) (rep _)) (itoaN_lt b)) (rep _)) (itoaN_lt a))
theorem k60r : ReadOk Tryz.prog G2 60 (F60v gTxt3 txt3) := read_knownE (D := noLive) (m := 10) (loops := 10) (n := 12) hm hn G2_plain kX60w fun ar x hF => by
 unfold F60v at hF
 split at hF
 case h_2 => cases hF
 rename_i g r k tt nl
 cases hc : gTxt3 g r k nl with
 | false => rw [hc] at hF; cases hF
 | true =>
 rw [hc] at hF
 cases hF
 refine ⟨rfl, ?_⟩
 unfold gTxt3 at hc
 rw [Bool.and_eq_true, Bool.and_eq_true, Bool.not_eq_true'] at hc
 obtain ⟨h1, h2, rfl⟩ := hc
 have := Nat.eq_of_beq_eq_true h2
 subst this
 obtain ⟨a, b, c, rfl, ha, hb, hc⟩ := three h1
 have hj : 1 ≤ (itoaN c).length := List.length_pos_iff.2 (itoaN_ne hc)
 refine ⟨_, kY60w (bif g then 4 else 2) (itoaN c).length, ?_⟩
 have := t60w sndG itoaN tt a b c g (itoaN c).length hj (itoaN_len hc)
 unfold txtP at this
 rw [this, h1]
 exact numT3_ok g ha hb hc
def NumR {α : Type} (x : Lib.NumEnd α) : Prop := (∃ v, x = .ok v) ∨ x = .range
theorem NumR.ok {α : Type} {v : α} : NumR (.ok v : Lib.NumEnd α) := .inl ⟨v, rfl⟩
theorem NumR.range {α : Type} : NumR (.range : Lib.NumEnd α) := .inr rfl
theorem parse_ns : ∀ (l : List UInt8) (acc : Nat), (∀ c ∈ l, isDig c) → NumR (Lib.parseUint10 acc l)
 | [], acc, _ => by simp only [Lib.parseUint10]; exact .ok
 | c :: r, acc, h => by
  have hc := h c (by simp)
  unfold isDig at hc
  simp only [Lib.parseUint10]
  rw [if_pos hc]
  split
  ·exact .range
  ·split
   ·exact .range
   ·exact parse_ns r _ fun x hx => h x (List.mem_cons_of_mem _ hx)
theorem atoi_ns {l : List UInt8} (h : ∀ c ∈ l, isDig c) (h0 : l ≠ []) : NumR (Lib.atoiAll l) ∧ NumR (Lib.atoiAll (45 :: l)) := by
 have hp := parse_ns l 0 h
 refine ⟨?_, ?_⟩
 ·cases l with
  | nil => exact absurd rfl h0
  | cons c r =>
   have hc := h c (by simp)
   unfold isDig at hc
   unfold Lib.atoiAll Lib.parseMag
   have e1 : ¬ c.toNat = 43 := by omega
   have e2 : ¬ c.toNat = 45 := by omega
   simp only [e1, e2, or_self, if_false]
   rw [if_neg (by simp)]
   rcases hp with ⟨u, hq⟩ | hq
   ·rw [hq]; simp only [not_false_eq_true, true_and, false_and, if_false]; split <;> first | exact .ok | exact .range
   ·rw [hq]; exact .range
 ·unfold Lib.atoiAll Lib.parseMag
  have e : (45 : UInt8).toNat = 45 := rfl
  simp only [e, or_true, if_true]
  rw [if_neg h0]
  rcases hp with ⟨u, hq⟩ | hq
  ·rw [hq]; simp only [not_true_eq_false, false_and, if_false, true_and]; split <;> first | exact .ok | exact .range
  ·rw [hq]; exact .range
theorem ac_txt3 {g : Bool} {r : List AV} (h : sndG g r 3 = true) : ac59 (txt3 g r) = true := by
 obtain ⟨a, b, c, rfl, ha, hb, hc⟩ := three h
 have la := itoaN_len ha
 have lb := itoaN_len hb
 have lc := itoaN_len hc
 unfold ac59
 have hlen : (txt3 g [.int .u32 a, .int .u32 b, .int .u32 c]).length ≤ 100 := by
  show (sg g ++ itoaN c ++ List.replicate (9 - (itoaN b).length) 48 ++ itoaN b ++ List.replicate (9 - (itoaN a).length) 48 ++ itoaN a).length ≤ 100
  simp only [List.length_append, List.length_replicate]
  have : (sg g).length ≤ 1 := by cases g <;> decide
  omega
 rw [Nat.ble_eq_true_of_le hlen]
 let D : List UInt8 := Lib.decDigits c.toNat ++ List.replicate (9 - (itoaN b).length) 48 ++ Lib.decDigits b.toNat ++ List.replicate (9 - (itoaN a).length) 48 ++ Lib.decDigits a.toNat
 have hD : (itoaN c ++ List.replicate (9 - (itoaN b).length) 48 ++ itoaN b ++ List.replicate (9 - (itoaN a).length) 48 ++ itoaN a).map UInt8.ofNat = D := by
  rw [List.map_append, List.map_append, List.map_append, List.map_append, back_itoa ha, back_itoa hb, back_itoa hc, List.map_replicate, List.map_replicate]; rfl
 have hrep : ∀ n, ∀ x ∈ List.replicate n (48 : UInt8), isDig x := fun n x hx => by
  have := (List.mem_replicate.1 hx).2
  subst this
  exact ⟨by decide, by decide⟩
 have hdig : ∀ x ∈ D, isDig x := fun x hx => by
  rcases List.mem_append.1 hx with hx | hx
  ·rcases List.mem_append.1 hx with hx | hx
   ·rcases List.mem_append.1 hx with hx | hx
    ·rcases List.mem_append.1 hx with hx | hx
     ·exact decDigits_dig _ x hx
     ·exact hrep _ x hx
    ·exact decDigits_dig _ x hx
   ·exact hrep _ x hx
  ·exact decDigits_dig _ x hx
 have hne : D ≠ [] := fun e => by
  rw [List.append_eq_nil_iff] at e
  exact decDigits_ne _ e.2
 obtain ⟨n1, n2⟩ := atoi_ns hdig hne
 have hs : NumR (atE (txt3 g [.int .u32 a, .int .u32 b, .int .u32 c])) := by
  cases g with
  | false =>
   have : txt3 false [.int .u32 a, .int .u32 b, .int .u32 c] = itoaN c ++ List.replicate (9 - (itoaN b).length) 48 ++ itoaN b ++ List.replicate (9 - (itoaN a).length) 48 ++ itoaN a := rfl
   unfold atE
   rw [this, hD]; exact n1
  | true =>
   have : txt3 true [.int .u32 a, .int .u32 b, .int .u32 c] = 45 :: (itoaN c ++ List.replicate (9 - (itoaN b).length) 48 ++ itoaN b ++ List.replicate (9 - (itoaN a).length) 48 ++ itoaN a) := rfl
   unfold atE
   rw [this, List.map_cons, hD]; exact n2
 rcases hs with ⟨v, hq⟩ | hq
 ·rw [hq]; rfl
 ·rw [hq]; rfl
end Go.Am.Sto
end
