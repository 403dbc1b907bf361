import Derived.Test.YtlibahklbbachaaGreatDoorRf32
import Derived.Test.YtlibahklbbachaaGreatDoorRf33
set_option autoImplicit false
set_option maxRecDepth 100000
set_option linter.unusedSimpArgs false
set_option linter.unusedVariables false
namespace Go.Am.Sto
open Go Go.Am Go.Proofs
theorem i37 (z : Int) : bodyK Tryz.prog G0 .none 3 3 noLive Res.val? 3 Tryz.prog.funcs[37]? [.int .i64 z] St.empty = some (.agg [.int .i64 4, .int .i64 z]) := by kernel_rfl
theorem k37 : ∀ (args : List AV) (s : St) (E : Env) (w : World) (vs : List Value), Rel E s w → GlobOk E G0 w → VRL E args vs → ResOk Tryz.prog E s w 37 vs (pureX F37 args s) :=
 flat_known (D := noLive) (m := 3) (loops := 3) (n := 3) (F := F37) hm hn G0_plain (KnownOk.none _ _) fun ar x hx => by
  unfold F37 at hx
  split at hx
  ·cases hx; exact ⟨rfl, rfl, i37 _⟩
  ·cases hx
abbrev X18s : Known := X18 sndG scS sbS svS
theorem kX18 : KnownOk Tryz.prog G2 X18s := ((((KnownOk.none _ _).add fun ar s E w vs h hG ha => k35v ar s E w vs h (G2_0 hG) ha).add k36e).add (kM2 k38u)).add fun ar s E w vs h hG ha => k37 ar s E w vs h (G2_0 hG) ha
theorem kY18 {β : Type} : KnownKOk X18s (Y18 sndG scS sbS svS : KnownK β) := addP (addK (addH' (addH' (KnownKOk.none _) 35 (zK_le _)) 36 (zK_le _)) 38 F38u) 37 F37
abbrev intS (d : Hid) (g : Bool) (r : List AV) (k : Nat) (nl : Bool) : Option R := intV sbS svS d g r k nl
def rT (x : Option R) : Int := match x with | some (.tup [.agg [.int _ a, _], _], _) => a | _ => 0
def rN (x : Option R) : Int := match x with | some (.tup [.agg [_, .int _ b], _], _) => b | _ => 0
def rE (x : Option R) : Int := match x with | some (.tup [_, .int _ e], _) => e | _ => 0
def rD (d : Hid) (x : Option R) : Hid := match x with | some (_, d') => d' | _ => d
def okI (g : Bool) (r : List AV) (k : Nat) (nl : Bool) : Bool := sndG g r k && (scS g r k nl && (r.all isLimb && (Nat.beq r.length k && Nat.ble k 65)))
abbrev icS (_ : Hid) (g : Bool) (r : List AV) (k : Nat) (nl : Bool) : Bool := okI g r k nl
abbrev itS (d : Hid) (g : Bool) (r : List AV) (k : Nat) (nl : Bool) : Int := rT (intS d g r k nl)
abbrev ivS (d : Hid) (g : Bool) (r : List AV) (k : Nat) (nl : Bool) : Int := rN (intS d g r k nl)
abbrev ieS (d : Hid) (g : Bool) (r : List AV) (k : Nat) (nl : Bool) : Int := rE (intS d g r k nl)
abbrev iDS (d : Hid) (g : Bool) (r : List AV) (k : Nat) (nl : Bool) : Hid := rD d (intS d g r k nl)
theorem int_cases (d : Hid) (g : Bool) (r : List AV) (k : Nat) (nl : Bool) : (∃ z, intS d g r k nl = gV d 4 z 0) ∨ intS d g r k nl = madeBig d (bigL (bif g then 1 else 0) r) := by
 unfold intS intV
 cases sbS g r k nl with
 | false => exact .inr rfl
 | true =>
  show (∃ z, byB (!leI (svS g r k nl) (-1000000000000000000)) _ _ = _) ∨ byB (!leI (svS g r k nl) (-1000000000000000000)) _ _ = _
  cases (!leI (svS g r k nl) (-1000000000000000000)) with
  | false => exact .inr rfl
  | true =>
   show (∃ z, byB (!leI 1000000000000000000 (svS g r k nl)) _ _ = _) ∨ byB (!leI 1000000000000000000 (svS g r k nl)) _ _ = _
   cases (!leI 1000000000000000000 (svS g r k nl)) with
   | false => exact .inr rfl
   | true => exact .inl ⟨_, rfl⟩
theorem int_eq (d : Hid) (g : Bool) (r : List AV) (k : Nat) (nl : Bool) : intS d g r k nl = some (.tup [.agg [.int .i64 (itS d g r k nl), .int .i64 (ivS d g r k nl)], .int .i64 (ieS d g r k nl)], iDS d g r k nl) := by
 unfold itS ivS ieS iDS
 rcases int_cases d g r k nl with ⟨z, h⟩ | h <;> (rw [h]; rfl)
theorem k18 : MethOk Tryz.prog G2 18 (F18v icS itS ivS ieS iDS) := meth_known (D := D18) (m := 80) (loops := 90) (n := 8) hm hn G2_plain kX18 kY18 fun d ar x d' hF => by
 unfold F18v at hF
 split at hF
 case h_2 => cases hF
 rename_i g r k t nl
 simp only [Option.some.injEq, Prod.mk.injEq] at hF
 obtain ⟨h1, rfl, rfl⟩ := hF
 unfold icS okI at h1
 rw [Bool.and_eq_true, Bool.and_eq_true, Bool.and_eq_true, Bool.and_eq_true] at h1
 obtain ⟨h1, h2, h3, h4, h5⟩ := h1
 exact (int_tree sndG scS sbS svS d g h3 (Nat.eq_of_beq_eq_true h4) (Nat.le_of_ble_eq_true h5) h1 h2).trans (int_eq d g r k nl)
theorem give_ok {d : Hid} (hd : ∃ L U, d.nums = [L, U]) {m : Nat} {g : Bool} {r : List AV} {k : Nat} {t nl : Bool} (h : NumN m g r k nl) (hm : m ≤ 65) : Good (giveT icS itS ivS ieS iDS d g r k t nl) := by
 obtain ⟨h1, h2⟩ := h.ok
 have hk := h.le
 have ho : okI g r k nl = true := by
  unfold okI
  rw [h.snd, h.sc (fun _ => by cases nl <;> simp), h1, h2, Nat.beq_refl, Nat.ble_eq_true_of_le (show k ≤ 65 by omega)]; rfl
 have hp : AV.plain (nA g r k t nl) = true := by
  show (true && (AV.plains r && true)) = true
  rw [h.plain]; rfl
 unfold giveT
 refine good_ifK hp (good_ifK ho ?_)
 have he : ieS d g r k nl ≠ 2 ∧ ieS d g r k nl ≠ 11 := by
  unfold ieS
  rcases int_cases d g r k nl with ⟨z, e⟩ | e
  ·rw [e]; exact ⟨by show (0 : Int) ≠ 2; decide, by show (0 : Int) ≠ 11; decide⟩
  ·rw [e]
   exact mk_err d 5 (bigL (bif g then 1 else 0) r) (bigL_ok _ _ h1) hd
 exact good_byB (good_gV he.1 he.2) (good_gV (by decide) (by decide))
end Go.Am.Sto
