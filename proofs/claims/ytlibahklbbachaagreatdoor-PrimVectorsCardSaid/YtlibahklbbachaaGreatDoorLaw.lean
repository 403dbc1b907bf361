/- Lists: the law's code. -/
import Derived.Test.YtlibahklbbachaaGreatDoorPln
import Derived.Test.YtlibahklbbachaaGreatDoorFix
import Derived.Laws.Externs
import Derived.RowKit3
import Derived.Below
section
set_option autoImplicit false
set_option maxRecDepth 100000
namespace Go.Am.Sto
open Go Go.Am Go.Proofs

def X4 (c c3 : Hid → List AV → Bool) (t n t3 n3 : Hid → List AV → Int) (D D3 : Hid → List AV → Hid) : Known := (((Known.none.add 8 (newX F8)).add 9 (pureX F9)).add 13 (methX (valG c3 t3 n3 D3))).add 14 (methX (valG c t n D))
def Y4 {β : Type} (c c3 : Hid → List AV → Bool) (t n t3 n3 : Hid → List AV → Int) (D D3 : Hid → List AV → Hid) : KnownK β := (KnownK.none.add 13 (methK (valG c3 t3 n3 D3))).add 14 (methK (valG c t n D))
/-- a call, and what comes behind it -/
def stp (c : Hid → List AV → Bool) (t n : Hid → List AV → Int) (D : Hid → List AV → Hid) (d : Hid) (ar : List AV) (k : Hid → Int → Int → Option AV) : Option AV := ifK (c d ar) (k (D d ar) (t d ar) (n d ar))
abbrev a1 (nm : List Nat) (a b : Int) : List AV := [.hptr 0, .str nm, .lst [.int .i64 a, .int .i64 b] 1 true false]
abbrev a2 (nm : List Nat) (a b x y : Int) : List AV := [.hptr 0, .str nm, .lst [.int .i64 a, .int .i64 b, .int .i64 x, .int .i64 y] 2 true false]
def sApp : List Nat := [97, 112, 112, 101, 110, 100]
def sRev : List Nat := [114, 101, 118, 101, 114, 115, 101]
def sLen : List Nat := [108, 101, 110, 103, 116, 104]
def sVL : List Nat := [118, 101, 99, 116, 111, 114, 45, 62, 108, 105, 115, 116]
def sLV : List Nat := [108, 105, 115, 116, 45, 62, 118, 101, 99, 116, 111, 114]
def sEqu : List Nat := [101, 113, 117, 97, 108, 63]
def sLst : List Nat := [108, 105, 115, 116, 63]
section
variable (c c3 : Hid → List AV → Bool) (t n t3 n3 : Hid → List AV → Int) (D D3 : Hid → List AV → Hid) (la lb : List AV) (ma mb : Nat) (na nb : Bool)
def T4 : Option AV := some (.bool true)
def N4 : Option AV := some (.bool false)
theorem t4 : bodyY Tryz.prog G0 (X4 c c3 t n t3 n3 D D3) (Y4 c c3 t n t3 n3 D D3) 5 8 noLive Res.val? 5 Tryz.prog.funcs[4]? [.lst la ma false na, .lst lb mb false nb] St.empty =
    byB (!leI (.ofNat ma) 100) T4 (byB (!leI (.ofNat mb) 100) T4 (ifK (AV.plain (.lst la ma false na)) (stp c3 t3 n3 D3 (newHid 5000) [.hptr 0, .lst la ma false na] fun d1 x0 x1 =>
      ifK (AV.plain (.lst lb mb false nb)) (stp c3 t3 n3 D3 d1 [.hptr 0, .lst lb mb false nb] fun d2 y0 y1 =>
      stp c t n D d2 (a2 sApp x0 x1 y0 y1) fun d3 b0 b1 => stp c t n D d3 (a1 sRev b0 b1) fun d4 l0 l1 => stp c t n D d4 (a1 sRev y0 y1) fun d5 v0 v1 => ifK (again x0 x1) (stp c t n D d5 (a1 sRev x0 x1) fun d6 u0 u1 =>
      stp c t n D d6 (a2 sApp v0 v1 u0 u1) fun d7 r0 r1 => stp c t n D d7 (a1 sLen b0 b1) fun d8 _ n1 => stp c t n D d8 (a1 sLV b0 b1) fun d9 w0 w1 => stp c t n D d9 (a1 sVL w0 w1) fun d10 k0 k1 =>
      stp c t n D d10 (a2 sEqu l0 l1 r0 r1) fun d11 e0 _ => byB (eqI e0 1) (byB (eqI n1 (IntKind.i64.wrap (.ofNat ma + .ofNat mb))) (stp c t n D d11 (a2 sEqu k0 k1 b0 b1) fun d12 f0 _ => byB (eqI f0 1) (stp c t n D d12 (a1 sLst b0 b1) fun _ g0 _ =>
        some (.bool (eqI g0 1))) N4) N4) N4))))) := by kernel_rfl
end
end Go.Am.Sto
end
section
set_option autoImplicit false
set_option maxRecDepth 100000
namespace Go.Am.Sto
open Go Go.Am Go.Proofs

theorem stp_runs {d d' : Hid} {ar : List AV} {v : V2} (h : Runs d ar v d') (k : Hid → Int → Int → Option AV) : stp c14 t14' n14' D14' d ar k = k d' v.1 v.2 := by
  obtain ⟨h1, h2, h3, h4⟩ := h
  unfold stp
  rw [h1, h2, h3, h4]; rfl
theorem stp_fixs {d d' : Hid} {ar : List AV} {v : V2} (h : Fixs d ar v d') (k : Hid → Int → Int → Option AV) : stp c13 t13 n13 D13' d ar k = k d' v.1 v.2 := by
  obtain ⟨h1, h2, h3, h4⟩ := h
  unfold stp
  rw [h1, h2, h3, h4]; rfl
theorem intsA_plains : ∀ l : List Int, AV.plains (intsA l) = true
  | [] => rfl
  | _ :: l => by simp only [intsA, AV.plains, intsA_plains l]; rfl
theorem intsA_plain (l : List Int) (nl : Bool) : AV.plain (.lst (intsA l) l.length false nl) = true := intsA_plains l
theorem ifK_t {β : Type} {c : Bool} (h : c = true) (x : Option β) : ifK c x = x := by rw [h]; rfl
theorem byB_t {β : Type} {c : Bool} (h : c = true) (x y : β) : byB c x y = x := by rw [h]
theorem byB_f {β : Type} {c : Bool} (h : c = false) (x y : β) : byB c x y = y := by rw [h]

theorem law4 (a b : List Int) (na nb : Bool) : bodyY Tryz.prog G0 (X4 c14 c13 t14' n14' t13 n13 D14' D13') (Y4 c14 c13 t14' n14' t13 n13 D14' D13') 5 8 noLive Res.val? 5 Tryz.prog.funcs[4]? [.lst (intsA a) a.length false na, .lst (intsA b) b.length false nb] St.empty = some (.bool true) := by
  rw [t4]
  by_cases ha : a.length ≤ 100
  case neg => rw [leI_f (show (100 : Int) < Int.ofNat a.length by simp only [Int.ofNat_eq_natCast]; omega)]; rfl
  by_cases hb : b.length ≤ 100
  case neg => rw [leI_t (show Int.ofNat a.length ≤ (100 : Int) by simp only [Int.ofNat_eq_natCast]; omega), leI_f (show (100 : Int) < Int.ofNat b.length by simp only [Int.ofNat_eq_natCast]; omega)]; rfl
  rw [leI_t (show Int.ofNat a.length ≤ (100 : Int) by simp only [Int.ofNat_eq_natCast]; omega), leI_t (show Int.ofNat b.length ≤ (100 : Int) by simp only [Int.ofNat_eq_natCast]; omega), intsA_plain, intsA_plain]
  have la : (fx a).length = a.length := List.length_map _
  have lb : (fx b).length = b.length := List.length_map _
  have lab : (fx a ++ fx b).length = a.length + b.length := by rw [List.length_append, la, lb]
  have lra : (fx a).reverse.length = a.length := by rw [List.length_reverse, la]
  have lrb : (fx b).reverse.length = b.length := by rw [List.length_reverse, lb]
  have hL : (5000 : Int) ≤ 1048576 := by omega
  have nab := nums_app (nums_fx a) (nums_fx b)
  obtain ⟨x, d1, f1, o1, g1, x1⟩ := fixs_ok hL (Ok.new 5000) a (by omega) (by omega) false na
  obtain ⟨y, d2, f2, o2, g2, y2⟩ := fixs_ok hL o1 b (by omega) (by omega) false nb
  have x2 := g2.keep x1
  obtain ⟨w, d3, f3, o3, g3, w3⟩ := op22 hL o2 (nums_fx a) x2 y2 (by omega) (by omega) (by omega) true
  have x3 := g3.keep x2; have y3 := g3.keep y2
  obtain ⟨l, d4, f4, o4, g4, l4⟩ := op57 hL o3 nab w3 (by omega) (by omega) (by omega) true
  have x4 := g4.keep x3; have y4 := g4.keep y3; have w4 := g4.keep w3
  obtain ⟨v, d5, f5, o5, g5, v5⟩ := op57 hL o4 (nums_fx b) y4 (by omega) (by omega) (by omega) true
  have x5 := g5.keep x4; have w5 := g5.keep w4; have l5 := g5.keep l4
  obtain ⟨u, d6, f6, o6, g6, u6⟩ := op57 hL o5 (nums_fx a) x5 (by omega) (by omega) (by omega) true
  have v6 := g6.keep v5; have w6 := g6.keep w5; have l6 := g6.keep l5
  obtain ⟨r, d7, f7, o7, g7, r7⟩ := op22 hL o6 (nums_rev (nums_fx b)) v6 u6 (by omega) (by omega) (by omega) true
  have w7 := g7.keep w6; have l7 := g7.keep l6
  have f8 := op21 o7 w7 (by omega) (by omega) (by omega) true
  obtain ⟨i, d9, f9, o9, g9, i9⟩ := op29 hL o7 nab w7 (by omega) (by omega) (by omega) true
  have w9 := g9.keep w7; have l9 := g9.keep l7; have r9 := g9.keep r7
  obtain ⟨k, d10, f10, o10, g10, k10⟩ := op30 hL o9 nab i9 (by omega) (by omega) true
  have w10 := g10.keep w9; have l10 := g10.keep l9; have r10 := g10.keep r9
  have f11 := op33 (d := d10) (l := (fx a ++ fx b).reverse) (v := l) (w := r) l10 (by rw [List.reverse_append]; exact r10) (by rw [List.length_reverse]; omega) true
  have f12 := op33 (d := d10) k10 w10 (by omega) true
  have f13 := op20 o10 w10 (by omega) (by omega) (by omega) true
  refine (byB_f rfl _ _).trans ?_
  refine (byB_f rfl _ _).trans ?_
  refine (ifK_t rfl _).trans ?_
  refine (stp_fixs f1 _).trans ?_
  refine (ifK_t rfl _).trans ?_
  refine (stp_fixs f2 _).trans ?_
  refine (stp_runs (runs_of (nm := sApp) (op := 22) rfl rfl rfl f3) _).trans ?_
  refine (stp_runs (runs_of (nm := sRev) (op := 57) rfl rfl rfl f4) _).trans ?_
  refine (stp_runs (runs_of (nm := sRev) (op := 57) rfl rfl rfl f5) _).trans ?_
  refine (ifK_t (again_t _ _) _).trans ?_
  refine (stp_runs (runs_of (nm := sRev) (op := 57) rfl rfl rfl f6) _).trans ?_
  refine (stp_runs (runs_of (nm := sApp) (op := 22) rfl rfl rfl f7) _).trans ?_
  refine (stp_runs (runs_of (nm := sLen) (op := 21) rfl rfl rfl f8) _).trans ?_
  refine (stp_runs (runs_of (nm := sLV) (op := 29) rfl rfl rfl f9) _).trans ?_
  refine (stp_runs (runs_of (nm := sVL) (op := 30) rfl rfl rfl f10) _).trans ?_
  refine (stp_runs (runs_of (nm := sEqu) (op := 33) rfl rfl rfl f11) _).trans ?_
  refine (byB_t (show eqI 1 1 = true from rfl) _ _).trans ?_
  refine (byB_t (show eqI (Int.ofNat (fx a ++ fx b).length) (IntKind.i64.wrap (Int.ofNat a.length + Int.ofNat b.length)) = true from ?_) _ _).trans ?_
  · rw [wrap64 (by simp only [Int.ofNat_eq_natCast]; omega) (by simp only [Int.ofNat_eq_natCast]; omega), lab, show Int.ofNat a.length + Int.ofNat b.length = Int.ofNat (a.length + b.length) from rfl, eqI_self]
  refine (stp_runs (runs_of (nm := sEqu) (op := 33) rfl rfl rfl f12) _).trans ?_
  refine (byB_t (show eqI 1 1 = true from rfl) _ _).trans ?_
  exact (stp_runs (runs_of (nm := sLst) (op := 20) rfl rfl rfl f13) _).trans rfl
theorem kX4 : KnownOk Tryz.prog G0 (X4 c14 c13 t14' n14' t13 n13 D14' D13') := ((((KnownOk.none _ _).add k8).add k9).add k13v).add k14v
theorem kY4 {β : Type} : KnownKOk (X4 c14 c13 t14' n14' t13 n13 D14' D13') (Y4 c14 c13 t14' n14' t13 n13 D14' D13' : KnownK β) := addK (addK (KnownKOk.none _) 13 _) 14 _
end Go.Am.Sto
end
section
set_option autoImplicit false
set_option maxRecDepth 100000
namespace Go.Am
open Go Go.Proofs

theorem Rel.seen {H : Hid → Nat → (Nat → Prop) → World → Prop} {z : Nat → Nat → Option Value} {w : World} (hz : ∀ b o v, z b o = some v → w.cell? ⟨b, o, none⟩ = some v) : Rel (Env.cells z H) St.empty w where
  wf := .empty
  lt r b base e := by cases e
  obj r p e := by cases e
  z b o v e := hz b o v e
  zap b o v r base _ e := by cases e
  row r o b base _ e := by cases e
  mapo r es b base _ e := by cases e
  iter r x n b base _ e := by cases e
  coh r1 r2 b b1 b2 e := by cases e
  b0 r o b base _ e := by cases e
  hid n d b _ e := by cases e
  own n c e := e.elim
  hlt n b e := by cases e
theorem Step.below {H : Hid → Nat → (Nat → Prop) → World → Prop} {z : Nat → Nat → Option Value} {s' : St} {E' : Env} {w w' : World} (h : Step (Env.cells z H) St.empty w E' s' w') : Go.RowKit.Below w.heap.size w w' :=
  ⟨h.os, h.tape, h.output, h.size, fun k hk => h.fr k hk (fun r base e => by cases e) (fun n e => e)⟩
theorem returns_of_Y {P : Program} {G : Glob} (hm : P.follows .mixedOrders = true) (hn : NoNG P) {X : Known} (hX : KnownOk P G X) {Y : KnownK AV} (hY : KnownKOk X Y) {D : Live} {m loops n : Nat} {f : FuncId} {args : List AV} {s : St} {E : Env} {w : World} {vs : List Value} {x : AV}
    (h : Rel E s w) (hG : GlobOk E G w) (ha : VRL E args vs) (hr : bodyY P G X Y loops n D Res.val? m P.funcs[f]? args s = some x) (hb : ∀ fn, P.funcs[f]? = some fn → fn.body.isSome = true) :
    Calls P f ⟨vs⟩ w fun e w' => ∃ v' E' s', e = .returned v' ∧ Step E s w E' s' w' ∧ VR E' x v' := by
  have hr := bodyY_le hY hr
  have := bodyD_ok (D := D) hm hn (callN_ok hm hn hX loops n) m f args s E w vs h hG ha
  cases hb' : bodyD P G (callN P G X loops n) D m P.funcs[f]? args s with
  | ret y s1 =>
    rw [hb'] at hr this
    simp only [Res.val?, Option.some.injEq] at hr
    subst hr
    rcases this with ⟨_, h2⟩ | ⟨v', w', E', h1, _, _⟩
    · exact Calls.mono h2 fun e w' ⟨v', E', he, hs, hv⟩ => ⟨v', E', s1, he, hs, hv⟩
    · cases hf : P.funcs[f]? with
      | none => rw [hf] at hb'; simp [bodyD] at hb'
      | some fn =>
        have h4 := run_callFunc ⟨fn, hf, hb fn hf, hn f fn hf⟩ ⟨vs⟩ w
        rw [h4] at h1
        cases h1
  | _ => rw [hb'] at hr; cases hr
end Go.Am
namespace Go.Am.Sto
open Go Go.Am Go.Proofs

/-- what is told of a slice of integers that comes in -/
def IsRow (w : World) (a : Option Addr) (len cap : Nat) (zs : List Int) : Prop :=
  len ≤ cap ∧ ((a = none ∧ cap = 0 ∧ zs = []) ∨ ∃ x, a = some x ∧ zs.length = len ∧ ∀ i, i < zs.length → w.cell? (x.add i) = some (.int .i64 (zs.getD i 0)))
def intsV : List Int → List Value
  | [] => []
  | z :: l => .int .i64 z :: intsV l
theorem intsV_get : ∀ (l : List Int) (i : Nat), (intsV l)[i]? = (l[i]?).map (Value.int .i64)
  | [], _ => rfl
  | z :: l, 0 => rfl
  | z :: l, i + 1 => by simp only [intsV, List.getElem?_cons_succ]; exact intsV_get l i
theorem ints_VRL {E : Env} : ∀ l : List Int, VRL E (intsA l) (intsV l)
  | [] => .nil
  | _ :: l => .cons (.int _ _) (ints_VRL l)
/-- all cells of a world -/
def zAll (w : World) : Nat → Nat → Option Value := fun b o => w.cell? ⟨b, o, none⟩
theorem IsRow.VR {w : World} {H : Hid → Nat → (Nat → Prop) → World → Prop} {a : Option Addr} {len cap : Nat} {zs : List Int} (h : IsRow w a len cap zs) : VR (Env.cells (zAll w) H) (.lst (intsA zs) zs.length false a.isNone) (.slice a len cap) := by
  obtain ⟨hl, ⟨rfl, rfl, rfl⟩ | ⟨x, rfl, hlen, hc⟩⟩ := h
  · obtain rfl : len = 0 := by omega
    exact .lst .nil (Nat.le_refl _) (fun e => by cases e) rfl (fun _ => rfl) (fun e => absurd rfl e)
  · rw [hlen]
    refine .lst (ints_VRL zs) hl (fun e => by cases e) rfl (fun e => by cases e) fun hne => ?_
    have hp : 0 < zs.length := by cases zs with | nil => exact absurd rfl hne | cons => simp
    obtain ⟨b, off, spot⟩ := x
    have hspot : spot = none := by simpa [Addr.add] using World.cell?_spot (hc 0 hp)
    subst hspot
    refine ⟨b, off, rfl, fun i v hv => ?_⟩
    rw [intsV_get] at hv
    by_cases hi : i < zs.length
    · have := hc i hi
      rw [Go.WideShapes.add_plain] at this
      rw [List.getElem?_eq_getElem hi] at hv
      show w.cell? ⟨b, off + i, none⟩ = _
      rw [this, ← hv]
      simp [List.getD, hi]
    · rw [List.getElem?_eq_none (by omega)] at hv; cases hv

theorem walk4 (a b : Option Addr) (la ca lb cb : Nat) (za zb : List Int) (w : World) (ha : IsRow w a la ca za) (hb : IsRow w b lb cb zb) :
    Calls Tryz.prog 4 #[.slice a la ca, .slice b lb cb] w fun e w' => e = .returned (.bool true) ∧ Go.RowKit.Below w.heap.size w w' := by
  have h := returns_of_Y (D := noLive) (m := 5) (loops := 5) (n := 8) (f := 4) (vs := [.slice a la ca, .slice b lb cb]) hm hn kX4 kY4 (Rel.seen (H := H0) (z := zAll w) fun _ _ _ e => e) ⟨⟨fun _ _ h => (by cases h), fun _ _ h => (by cases h)⟩, rfl⟩
    (.cons ha.VR (.cons hb.VR .nil)) (law4 za zb _ _) (fun fn hf => by
      have : fn = Tryz.f4 := Option.some.inj (hf.symm.trans (show Tryz.prog.funcs[4]? = some Tryz.f4 by kernel_rfl))
      subst this; rfl)
  refine Calls.mono h fun e w' ⟨v', E', s', he, hs, hv⟩ => ?_
  cases hv
  exact ⟨he, Step.below hs⟩
end Go.Am.Sto
end
