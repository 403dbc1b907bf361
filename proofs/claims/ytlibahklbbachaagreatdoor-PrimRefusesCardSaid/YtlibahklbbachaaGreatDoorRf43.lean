import Derived.Test.YtlibahklbbachaaGreatDoorRf11
import Derived.Test.YtlibahklbbachaaGreatDoorRf42
import Derived.Test.YtlibahklbbachaaGreatDoorRf20
import Derived.Laws.Externs
import Derived.RowKit3
import Derived.Below
set_option autoImplicit false
set_option maxRecDepth 100000
set_option linter.unusedSimpArgs false
set_option linter.unusedVariables false
section
namespace Go.Am.Sto
open Go Go.Am Go.Proofs
theorem vec00e (L U : Int) (tt : Bool) : runVec Tryz.prog 0 7 3 [(66, sto0 L U)] (.lst [] 0 tt false) =
  ifK (chk1 L U) (byB (full L U 0) (some (errV 16, some (sto0 L U, 66, true), some (sto0 L U, 66, true), none, some ([], 29, true)))
   (ifK (chk2 U) (some (objV 0, some (sto1 L (pay U 0) 7 1, 66, true), some (sto1 L (pay U 0) 7 1, 66, true), some (.int .i64 2 :: .sl 3 0 0 2 true :: rest8, 115, true), some ([], 29, true))))) := by kernel_rfl
def F38e (d : Hid) : List AV → Option (Bool × AV × Hid)
 | [.hptr 0, .int .i64 2, .lst [] 0 _ false] => some (Nat.beq d.rows.length 0, getV (mkOf d 2 []).1, (mkOf d 2 []).2)
 | _ => none
theorem k38e : MethOk Tryz.prog G0 38 F38e := pres_known (D := noLive) (m := 5) (loops := 5) (n := 8) (Sees := Sees) (Ends := Ends) hm hn G0_plain kXS2 sees (fun d b own w l ar x d' hS hF => by
 unfold F38e at hF
 split at hF
 ·rename_i tt
  obtain ⟨L, U, s1, s2, s3, s4, s5, s6⟩ := hS
  simp only [Option.some.injEq, Prod.mk.injEq] at hF
  obtain ⟨p1, rfl, rfl⟩ := hF
  have hn0 : d.rows.length = 0 := Nat.eq_of_beq_eq_true p1
  have h7' : d.rows = [] := List.eq_nil_of_length_eq_zero hn0
  have hmk : mkOf d 2 [] = byB (full L U 0) (((0, 0), 16), d) (((7, .ofNat d.rows.length), 0), ⟨0, [L, pay U 0], d.rows ++ [(2, [])], []⟩) := by
   unfold mkOf; rw [s2]; rfl
  rw [hmk]
  refine ⟨_, rfl, rfl, ?_⟩
  have run : ∀ {ll : List (TypeId × List AV)} {slots : AV} {j r q : Nat} {x a b c e}, runVec Tryz.prog j r q ll slots = some (x, a, b, c, e) → ∃ s', bodyD Tryz.prog G0 (callN Tryz.prog G0 XS2 5 8) noLive 5 Tryz.prog.funcs[38]? [.ptr 0 0, .int .i64 2, slots] (St.rows ll) = .ret x s' ∧ rowI s' 0 = a ∧ rowI s' j = b ∧ rowI s' r = c ∧ rowI s' q = e := fun h => of_mkR (bodyY_le kYS2 h)
  rcases s6 with ⟨h7, rfl⟩ | ⟨bo, base, o, rs, sb, m1, rfl, m3, m4, m5⟩
  ·have tree := vec00e L U tt
   rw [chk1_t, chk2_t] at tree
   cases hfu : full L U 0 with
   | true =>
    rw [hfu] at tree
    obtain ⟨s', r1, r2, _⟩ := run tree
    exact ⟨rfl, s', r1, ends_same0 r2⟩
   | false =>
    rw [hfu] at tree
    obtain ⟨s', r1, r2, _, r3, r4⟩ := run tree
    rw [hn0]
    exact ⟨rfl, s', r1, .inr ⟨L, U, pay U 0, 7, 3, 2, [], [], .sl 3 0 0 2 true, s2, rfl, fit_more s4 (by omega) hfu, by rw [hn0]; exact r2, r3, .inl ⟨rfl, rfl⟩, .inr ⟨rfl, rfl⟩⟩⟩
  ·rw [h7'] at m1; cases m1
 ·cases hF) ends
end Go.Am.Sto
end
section
namespace Go.Am.Sto
open Go Go.Am Go.Proofs
section
variable (isn : Int → Int → Bool) (ng : Int → Bool) (ls : Int → List AV) (ln : Int → Nat) (le : Int → Bool)
variable (ad : Bool → List AV → Nat → Bool → Bool → Bool → List AV → Nat → Bool → Bool → Bool) (ag an : Bool → List AV → Nat → Bool → Bool → Bool → List AV → Nat → Bool → Bool → Bool) (ar : Bool → List AV → Nat → Bool → Bool → Bool → List AV → Nat → Bool → Bool → List AV)
 (ak : Bool → List AV → Nat → Bool → Bool → Bool → List AV → Nat → Bool → Bool → Nat) (ae : Bool → List AV → Nat → Bool → Bool → Bool → List AV → Nat → Bool → Bool → Int)
variable (ic : Hid → Bool → List AV → Nat → Bool → Bool) (it iv ie : Hid → Bool → List AV → Nat → Bool → Int) (iD : Hid → Bool → List AV → Nat → Bool → Hid)
variable (tt : Bool) (d : Hid)
theorem e0 : apA isn ng ls ln le ad ag an ar ak ae ic it iv ie iD Tryz.prog 70 tt d 0 [] 0 = giveT ic it iv ie iD d false [] 0 true true := by kernel_rfl
theorem e2 : apM isn ng ls ln le ad ag an ar ak ae ic it iv ie iD Tryz.prog 73 tt d 2 [] 0 = giveT ic it iv ie iD d false [.int .u32 1] 1 false false := by kernel_rfl
def X23e : Known := (XB isn ng ls ln le).add 38 (methX F38e)
def Y23e {β : Type} : KnownK β := (YB isn ng ls ln le).add 38 (methK F38e)
theorem e23 : bodyY Tryz.prog G2 (X23e isn ng ls ln le) (Y23e isn ng ls ln le) 90 20 noLive Res.meth? 100 Tryz.prog.funcs[10]? [.hptr 0, .int .i64 23, .lst [] 0 tt false] (St.one d) = ifK (Nat.beq d.rows.length 0) (mV (mkOf d 2 [])) := by kernel_rfl
end
theorem kX23e : KnownOk Tryz.prog G2 (X23e isnS ngS lsS lnS leS) := kXB.add (kM2 k38e)
theorem kY23e {β : Type} : KnownKOk (X23e isnS ngS lsS lnS leS) (Y23e isnS ngS lsS lnS leS : KnownK β) := addK kYB 38 F38e
theorem ans_n0 (ha : arOk 0 0 = true) : Answered Tryz.prog 0 [] := by
 refine ans_good (l := []) kXAdd kYAdd (D := noLive) (m := 100) (loops := 90) (n := 20) (by decide) (by decide) rfl ha ?_
 have e := e0 isnS ngS lsS lnS leS (adS Tryz.prog) (agS Tryz.prog) (anS Tryz.prog) (arS Tryz.prog) (akS Tryz.prog) (aeS Tryz.prog) icS itS ivS ieS iDS false d0
 unfold apA at e
 show Good (bodyY _ _ _ _ _ _ _ _ _ _ [.hptr 0, .int .i64 0, .lst [] 0 false false] _)
 rw [e]
 exact give_ok nums0 (m := 3) ⟨rfl, by decide, fun hn => absurd rfl hn⟩ (by omega)
theorem ans_n2 (ha : arOk 2 0 = true) : Answered Tryz.prog 2 [] := by
 refine ans_good (l := []) kXMul kYMul (D := noLive) (m := 100) (loops := 90) (n := 20) (by decide) (by decide) rfl ha ?_
 have e := e2 isnS ngS lsS lnS leS (mdS Tryz.prog) (mgS Tryz.prog) (mnS Tryz.prog) (mrS Tryz.prog) (mkS Tryz.prog) (meS Tryz.prog) icS itS ivS ieS iDS false d0
 unfold apM at e
 show Good (bodyY _ _ _ _ _ _ _ _ _ _ [.hptr 0, .int .i64 2, .lst [] 0 false false] _)
 rw [e]
 exact give_ok nums0 (m := 3) ⟨rfl, by decide, fun _ => rfl⟩ (by omega)
theorem ans_n19 (ha : arOk 19 0 = true) : Answered Tryz.prog 19 [] := ans_good (l := []) kXW kYW (by decide) (by decide) rfl ha (g19 false false (l := []) (by simp) rfl)
theorem ans_n22 (ha : arOk 22 0 = true) : Answered Tryz.prog 22 [] := ans_good (l := []) kXW kYW (by decide) (by decide) rfl ha (g22e false false)
theorem ans_n42 (ha : arOk 42 0 = true) : Answered Tryz.prog 42 [] := ans_good (l := []) kXW kYW (by decide) (by decide) rfl ha (g42e false false)
theorem ans_n53 (ha : arOk 53 0 = true) : Answered Tryz.prog 53 [] := by
 refine ans_good (l := []) kXZ kYZ (D := noLive) (m := 100) (loops := 90) (n := 20) (by decide) (by decide) rfl ha ?_
 show Good (bodyY _ _ _ _ _ _ _ _ _ _ [.hptr 0, .int .i64 53, .lst [] 0 false false] _)
 rw [z53]
 exact good_gV (by decide) (by decide)
theorem ans_n23 (ha : arOk 23 0 = true) : Answered Tryz.prog 23 [] := by
 refine ans_good (l := []) kX23e kY23e (D := noLive) (m := 100) (loops := 90) (n := 20) (by decide) (by decide) rfl ha ?_
 show Good (bodyY _ _ _ _ _ _ _ _ _ _ [.hptr 0, .int .i64 23, .lst [] 0 false false] _)
 rw [e23]
 exact good_ifK rfl (good_mV (mk_err d0 2 [] rfl nums0).1 (mk_err d0 2 [] rfl nums0).2)
theorem ans_nil : ∀ k : Nat, k < 64 → arOk (.ofNat k) 0 = true → Answered Tryz.prog (.ofNat k) []
 | 0, _, ha => ans_n0 ha
 | 1, _, ha => absurd ha (by rw [show arOk (.ofNat 1) 0 = false from by kernel_rfl]; simp)
 | 2, _, ha => ans_n2 ha
 | 3, _, ha => absurd ha (by rw [show arOk (.ofNat 3) 0 = false from by kernel_rfl]; simp)
 | 4, _, ha => absurd ha (by rw [show arOk (.ofNat 4) 0 = false from by kernel_rfl]; simp)
 | 5, _, ha => absurd ha (by rw [show arOk (.ofNat 5) 0 = false from by kernel_rfl]; simp)
 | 6, _, ha => absurd ha (by rw [show arOk (.ofNat 6) 0 = false from by kernel_rfl]; simp)
 | 7, _, ha => absurd ha (by rw [show arOk (.ofNat 7) 0 = false from by kernel_rfl]; simp)
 | 8, _, ha => absurd ha (by rw [show arOk (.ofNat 8) 0 = false from by kernel_rfl]; simp)
 | 9, _, ha => absurd ha (by rw [show arOk (.ofNat 9) 0 = false from by kernel_rfl]; simp)
 | 10, _, ha => absurd ha (by rw [show arOk (.ofNat 10) 0 = false from by kernel_rfl]; simp)
 | 11, _, ha => absurd ha (by rw [show arOk (.ofNat 11) 0 = false from by kernel_rfl]; simp)
 | 12, _, ha => absurd ha (by rw [show arOk (.ofNat 12) 0 = false from by kernel_rfl]; simp)
 | 13, _, ha => absurd ha (by rw [show arOk (.ofNat 13) 0 = false from by kernel_rfl]; simp)
 | 14, _, ha => absurd ha (by rw [show arOk (.ofNat 14) 0 = false from by kernel_rfl]; simp)
 | 15, _, ha => absurd ha (by rw [show arOk (.ofNat 15) 0 = false from by kernel_rfl]; simp)
 | 16, _, ha => absurd ha (by rw [show arOk (.ofNat 16) 0 = false from by kernel_rfl]; simp)
 | 17, _, ha => absurd ha (by rw [show arOk (.ofNat 17) 0 = false from by kernel_rfl]; simp)
 | 18, _, ha => absurd ha (by rw [show arOk (.ofNat 18) 0 = false from by kernel_rfl]; simp)
 | 19, _, ha => ans_n19 ha
 | 20, _, ha => absurd ha (by rw [show arOk (.ofNat 20) 0 = false from by kernel_rfl]; simp)
 | 21, _, ha => absurd ha (by rw [show arOk (.ofNat 21) 0 = false from by kernel_rfl]; simp)
 | 22, _, ha => ans_n22 ha
 | 23, _, ha => ans_n23 ha
 | 24, _, ha => absurd ha (by rw [show arOk (.ofNat 24) 0 = false from by kernel_rfl]; simp)
 | 25, _, ha => absurd ha (by rw [show arOk (.ofNat 25) 0 = false from by kernel_rfl]; simp)
 | 26, _, ha => absurd ha (by rw [show arOk (.ofNat 26) 0 = false from by kernel_rfl]; simp)
 | 27, _, ha => absurd ha (by rw [show arOk (.ofNat 27) 0 = false from by kernel_rfl]; simp)
 | 28, _, ha => absurd ha (by rw [show arOk (.ofNat 28) 0 = false from by kernel_rfl]; simp)
 | 29, _, ha => absurd ha (by rw [show arOk (.ofNat 29) 0 = false from by kernel_rfl]; simp)
 | 30, _, ha => absurd ha (by rw [show arOk (.ofNat 30) 0 = false from by kernel_rfl]; simp)
 | 31, _, ha => absurd ha (by rw [show arOk (.ofNat 31) 0 = false from by kernel_rfl]; simp)
 | 32, _, ha => absurd ha (by rw [show arOk (.ofNat 32) 0 = false from by kernel_rfl]; simp)
 | 33, _, ha => absurd ha (by rw [show arOk (.ofNat 33) 0 = false from by kernel_rfl]; simp)
 | 34, _, ha => absurd ha (by rw [show arOk (.ofNat 34) 0 = false from by kernel_rfl]; simp)
 | 35, _, ha => absurd ha (by rw [show arOk (.ofNat 35) 0 = false from by kernel_rfl]; simp)
 | 36, _, ha => absurd ha (by rw [show arOk (.ofNat 36) 0 = false from by kernel_rfl]; simp)
 | 37, _, ha => absurd ha (by rw [show arOk (.ofNat 37) 0 = false from by kernel_rfl]; simp)
 | 38, _, ha => absurd ha (by rw [show arOk (.ofNat 38) 0 = false from by kernel_rfl]; simp)
 | 39, _, ha => absurd ha (by rw [show arOk (.ofNat 39) 0 = false from by kernel_rfl]; simp)
 | 40, _, ha => absurd ha (by rw [show arOk (.ofNat 40) 0 = false from by kernel_rfl]; simp)
 | 41, _, ha => absurd ha (by rw [show arOk (.ofNat 41) 0 = false from by kernel_rfl]; simp)
 | 42, _, ha => ans_n42 ha
 | 43, _, ha => absurd ha (by rw [show arOk (.ofNat 43) 0 = false from by kernel_rfl]; simp)
 | 44, _, ha => absurd ha (by rw [show arOk (.ofNat 44) 0 = false from by kernel_rfl]; simp)
 | 45, _, ha => absurd ha (by rw [show arOk (.ofNat 45) 0 = false from by kernel_rfl]; simp)
 | 46, _, ha => absurd ha (by rw [show arOk (.ofNat 46) 0 = false from by kernel_rfl]; simp)
 | 47, _, ha => absurd ha (by rw [show arOk (.ofNat 47) 0 = false from by kernel_rfl]; simp)
 | 48, _, ha => absurd ha (by rw [show arOk (.ofNat 48) 0 = false from by kernel_rfl]; simp)
 | 49, _, ha => absurd ha (by rw [show arOk (.ofNat 49) 0 = false from by kernel_rfl]; simp)
 | 50, _, ha => absurd ha (by rw [show arOk (.ofNat 50) 0 = false from by kernel_rfl]; simp)
 | 51, _, ha => absurd ha (by rw [show arOk (.ofNat 51) 0 = false from by kernel_rfl]; simp)
 | 52, _, ha => absurd ha (by rw [show arOk (.ofNat 52) 0 = false from by kernel_rfl]; simp)
 | 53, _, ha => ans_n53 ha
 | 54, _, ha => absurd ha (by rw [show arOk (.ofNat 54) 0 = false from by kernel_rfl]; simp)
 | 55, _, ha => absurd ha (by rw [show arOk (.ofNat 55) 0 = false from by kernel_rfl]; simp)
 | 56, _, ha => absurd ha (by rw [show arOk (.ofNat 56) 0 = false from by kernel_rfl]; simp)
 | 57, _, ha => absurd ha (by rw [show arOk (.ofNat 57) 0 = false from by kernel_rfl]; simp)
 | 58, _, ha => absurd ha (by rw [show arOk (.ofNat 58) 0 = false from by kernel_rfl]; simp)
 | 59, _, ha => absurd ha (by rw [show arOk (.ofNat 59) 0 = false from by kernel_rfl]; simp)
 | 60, _, ha => absurd ha (by rw [show arOk (.ofNat 60) 0 = false from by kernel_rfl]; simp)
 | 61, _, ha => absurd ha (by rw [show arOk (.ofNat 61) 0 = false from by kernel_rfl]; simp)
 | 62, _, ha => absurd ha (by rw [show arOk (.ofNat 62) 0 = false from by kernel_rfl]; simp)
 | 63, _, ha => absurd ha (by rw [show arOk (.ofNat 63) 0 = false from by kernel_rfl]; simp)
 | n + 64, h, _ => absurd h (by omega)
theorem ans_empty (op : Int) : Answered Tryz.prog op [] := by
 by_cases h : op < 0 ∨ 64 ≤ op
 ·exact ans_out op [] h
 ·cases ha : arOk op 0 with
  | false => exact ans_arity op [] (by omega) (by omega) (by simp) rfl ha
  | true =>
   obtain ⟨k, rfl⟩ : ∃ k : Nat, op = .ofNat k := ⟨op.toNat, by simp only [Int.ofNat_eq_natCast]; omega⟩
   exact ans_nil k (by simp only [Int.ofNat_eq_natCast] at h; omega) ha
end Go.Am.Sto
end
section
namespace Go.Am.Sto
open Go Go.Am Go.Proofs
end Go.Am.Sto
end
section
namespace Go.Am
open Go Go.Proofs
theorem Rel.seen {H : Hid → Nat → (Nat → Prop) → World → Prop} {z : Nat → Nat → Option Value} {w : World} (hz : ∀ b o v, z b o = some v → w.cell? ⟨b, o, none⟩ = some v) : Rel (Env.cells z H) St.empty w where
 wf := .empty
 lt r b base e := by cases e
 obj r p e := by cases e
 z b o v e := hz b o v e
 zap b o v r base _ e := by cases e
 row r o b base _ e := by cases e
 mapo r es b base _ e := by cases e
 iter r x n b base _ e := by cases e
 coh r1 r2 b b1 b2 e := by cases e
 b0 r o b base _ e := by cases e
 hid n d b _ e := by cases e
 own n c e := e.elim
 hlt n b e := by cases e
theorem Step.below {H : Hid → Nat → (Nat → Prop) → World → Prop} {z : Nat → Nat → Option Value} {s' : St} {E' : Env} {w w' : World} (h : Step (Env.cells z H) St.empty w E' s' w') : Go.RowKit.Below w.heap.size w w' :=
 ⟨h.os, h.tape, h.output, h.size, fun k hk => h.fr k hk (fun r base e => by cases e) (fun n e => e)⟩
theorem returns_of_Y {P : Program} {G : Glob} (hm : P.follows .mixedOrders = true) (hn : NoNG P) {X : Known} (hX : KnownOk P G X) {Y : KnownK AV} (hY : KnownKOk X Y) {D : Live} {m loops n : Nat} {f : FuncId} {args : List AV} {s : St} {E : Env} {w : World} {vs : List Value} {x : AV}
  (h : Rel E s w) (hG : GlobOk E G w) (ha : VRL E args vs) (hr : bodyY P G X Y loops n D Res.val? m P.funcs[f]? args s = some x) (hb : ∀ fn, P.funcs[f]? = some fn → fn.body.isSome = true) :
  Calls P f ⟨vs⟩ w fun e w' => ∃ v' E' s', e = .returned v' ∧ Step E s w E' s' w' ∧ VR E' x v' := by
 have hr := bodyY_le hY hr
 have := bodyD_ok (D := D) hm hn (callN_ok hm hn hX loops n) m f args s E w vs h hG ha
 cases hb' : bodyD P G (callN P G X loops n) D m P.funcs[f]? args s with
 | ret y s1 =>
  rw [hb'] at hr this
  simp only [Res.val?, Option.some.injEq] at hr
  subst hr
  rcases this with ⟨_, h2⟩ | ⟨v', w', E', h1, _, _⟩
  ·exact Calls.mono h2 fun e w' ⟨v', E', he, hs, hv⟩ => ⟨v', E', s1, he, hs, hv⟩
  ·cases hf : P.funcs[f]? with
   | none => rw [hf] at hb'; simp [bodyD] at hb'
   | some fn =>
    have h4 := run_callFunc ⟨fn, hf, hb fn hf, hn f fn hf⟩ ⟨vs⟩ w
    rw [h4] at h1
    cases h1
 | _ => rw [hb'] at hr; cases hr
end Go.Am
namespace Go.Am.Sto
open Go Go.Am Go.Proofs
def zAll (w : World) : Nat → Nat → Option Value := fun b o => w.cell? ⟨b, o, none⟩
end Go.Am.Sto
end
section
namespace Go.Am.Sto
open Go Go.Am Go.Proofs
theorem glob_start {w : World} (hE : ∃ v, w.cell? ⟨3, 0, none⟩ = some (.iface 275 v)) (hT : Lib.TabIs Tryz.prog w "internal/strconv.uint64pow10" .u64 Lib.pow10Tab) : GlobOk (Env.cells (zAll w) H0) G2 w := by
 unfold Lib.TabIs World.var? at hT
 rw [show Tryz.prog.globalNamed "internal/strconv.uint64pow10" = some 4 by kernel_rfl] at hT
 simp only [Option.bind_some] at hT
 split at hT
 case h_2 => cases hT
 rename_i c ty fz hc
 simp only [Option.some.injEq] at hT
 have hlen : (Lib.pow10Tab.map fun z => Value.int .u64 z).length = 20 := by simp [Lib.pow10Tab]
 have cell : ∀ i v, (Lib.pow10Tab.map fun z => Value.int .u64 z)[i]? = some v → zAll w 4 i = some v := fun i v hv => by
  show w.cell? ⟨4, i, none⟩ = _
  unfold World.cell?
  simp only [hc]
  show c[i]? = _
  rw [hT, List.getElem?_toArray]; exact hv
 have vals : ∀ l : List Int, VRL (Env.cells (zAll w) H0) (l.map (AV.int .u64)) (l.map fun z => Value.int .u64 z) := fun l => by
  induction l with
  | nil => exact .nil
  | cons z l ih => exact .cons (.int _ _) ih
 refine ⟨⟨fun g cs hg => ?_, fun g n hg => ?_⟩, rfl⟩
 ·unfold G2 at hg
  simp only at hg
  split at hg
  ·cases hg
   obtain ⟨v, hv⟩ := hE
   refine ⟨[.iface 275 v], .cons (.ifc (.undef _)) .nil, fun i u hu => ?_⟩
   cases i with
   | zero => cases hu; exact hv
   | succ i => cases hu
  ·cases hg; exact ⟨_, vals _, cell⟩
  ·cases hg
 ·unfold G2 at hg
  simp only at hg
  split at hg
  ·cases hg
   refine ⟨⟨.int .u64 1, cell 0 _ rfl⟩, c, ty, fz, hc, ?_⟩
   rw [hT, List.size_toArray, hlen]
  ·cases hg
end Go.Am.Sto
end
section
namespace Go.Am.Sto
open Go Go.Am Go.Proofs
def IsVals (w : World) (a : Option Addr) (len cap : Nat) (l : List V2) : Prop :=
 len ≤ cap ∧ ((a = none ∧ cap = 0 ∧ l = []) ∨ ∃ x, a = some x ∧ l.length = len ∧ ∀ i p, l[i]? = some p → w.cell? (x.add (i * 2)) = some (.int .i64 p.1) ∧ w.cell? (x.add (i * 2 + 1)) = some (.int .i64 p.2))
theorem cellsV_get : ∀ (l : List V2) (i : Nat) (v : Value), (cellsV l)[i]? = some v → ∃ p, l[i / 2]? = some p ∧ v = .int .i64 (if i % 2 = 0 then p.1 else p.2)
 | [], i, v, h => by simp [cellsV] at h
 | p :: l, 0, v, h => by cases h; exact ⟨p, rfl, rfl⟩
 | p :: l, 1, v, h => by cases h; exact ⟨p, rfl, rfl⟩
 | p :: l, i + 2, v, h => by
  obtain ⟨q, h1, h2⟩ := cellsV_get l i v h
  refine ⟨q, ?_, ?_⟩
  ·rw [show (i + 2) / 2 = i / 2 + 1 by omega]; exact h1
  ·rw [show (i + 2) % 2 = i % 2 by omega]; exact h2
theorem IsVals.VR {w : World} {H : Hid → Nat → (Nat → Prop) → World → Prop} {a : Option Addr} {len cap : Nat} {l : List V2} (h : IsVals w a len cap l) : VR (Env.cells (zAll w) H) (.lst (cellsA l) l.length false a.isNone) (.slice a len cap) ∧ (l ≠ [] → a.isNone = false) := by
 obtain ⟨hl, ⟨rfl, rfl, rfl⟩ | ⟨x, rfl, hlen, hc⟩⟩ := h
 ·obtain rfl : len = 0 := by omega
  exact ⟨.lst .nil (Nat.le_refl _) (fun e => by cases e) rfl (fun _ => rfl) (fun e => absurd rfl e), fun h => absurd rfl h⟩
 ·rw [hlen]
  refine ⟨.lst (cells_VRL l) hl (fun e => by cases e) rfl (fun e => by cases e) fun hne => ?_, fun _ => rfl⟩
  have hp : ∃ p, l[0]? = some p := by cases l with | nil => exact absurd rfl hne | cons p l => exact ⟨p, rfl⟩
  obtain ⟨p0, hp0⟩ := hp
  obtain ⟨b, off, spot⟩ := x
  have hspot : spot = none := by simpa [Addr.add] using World.cell?_spot (hc 0 p0 hp0).1
  subst hspot
  refine ⟨b, off, rfl, fun i v hv => ?_⟩
  obtain ⟨p, h1, h2⟩ := cellsV_get l i v hv
  obtain ⟨c1, c2⟩ := hc _ p h1
  rw [Go.WideShapes.add_plain] at c1 c2
  show w.cell? ⟨b, off + i, none⟩ = _
  rw [h2]
  by_cases he : i % 2 = 0
  ·rw [if_pos he, ← c1]
   congr 2; omega
  ·rw [if_neg he, ← c2]
   congr 2; omega
theorem walk3_of (hall : ∀ (op : Int) (l : List V2), l ≠ [] → l.length ≤ 30 → Answered Tryz.prog op l) (op : Int) (a : Option Addr) (la ca : Nat) (l : List V2) (w : World) (ha : IsVals w a la ca l) (hE : ∃ v, w.cell? ⟨3, 0, none⟩ = some (.iface 275 v)) (hT : Lib.TabIs Tryz.prog w "internal/strconv.uint64pow10" .u64 Lib.pow10Tab) :
  Calls Tryz.prog 3 #[.int .i64 op, .slice a la ca] w fun e w' => e = .returned (.bool true) ∧ Go.RowKit.Below w.heap.size w w' := by
 have hb : ∀ fn, Tryz.prog.funcs[3]? = some fn → fn.body.isSome = true := fun fn hf => by
  have : fn = Tryz.f3 := Option.some.inj (hf.symm.trans (show Tryz.prog.funcs[3]? = some Tryz.f3 by kernel_rfl))
  subst this; rfl
 obtain ⟨hv, hn0⟩ := ha.VR (H := H0)
 by_cases hl : l = []
 ·subst hl
  obtain ⟨c, t, n, e, D, hF, hr⟩ := law3e op false a.isNone (ans_empty op)
  have h := returns_of_Y (D := D3r) (m := 40) (loops := 5) (n := 8) (f := 3) (vs := [.int .i64 op, .slice a la ca]) hm hn (kX3e c t n e D hF) (kY3e c t n e D) (Rel.seen (H := H0) (z := zAll w) fun _ _ _ e => e) (glob_start hE hT)
   (.cons (.int _ _) (.cons hv .nil)) hr hb
  refine Calls.mono h fun e w' ⟨v', E', s', he, hs, hv⟩ => ?_
  cases hv
  exact ⟨he, Step.below hs⟩
 ·obtain ⟨c, t, n, e, D, hF, hr⟩ := law3 op l hl (hall op l hl)
  rw [hn0 hl] at hv
  have h := returns_of_Y (D := D3r) (m := 40) (loops := 5) (n := 8) (f := 3) (vs := [.int .i64 op, .slice a la ca]) hm hn (kX3r c t n e D hF) (kY3r c t n e D) (Rel.seen (H := H0) (z := zAll w) fun _ _ _ e => e) (glob_start hE hT)
   (.cons (.int _ _) (.cons hv .nil)) hr hb
  refine Calls.mono h fun e w' ⟨v', E', s', he, hs, hv⟩ => ?_
  cases hv
  exact ⟨he, Step.below hs⟩
end Go.Am.Sto
end
