/- The store: are many values sound? asked inside the store's own functions. -/
import Derived.Test.YtlibahklbbachaaGreatDoorSto2
import Derived.Test.YtlibahklbbachaaGreatDoorLst
section
set_option autoImplicit false
set_option maxRecDepth 100000
namespace Go.Am.Sto
open Go Go.Am Go.Proofs

def D41v : Live := fun i => match i with | 0 => .pack [0, 1, 7, 8] | _ => .all
def L41v (P : Program) (rounds : Nat) : T → St → Option AV := runLoop P G0 XS YS 5 8 D41v Res.val? 1000 41 (.pack [0, 1, 7, 8]) 0 rounds
abbrev stoV (L U : Int) (os : List AV) (n : Nat) (g1 g2 : Bool) : AV := .ptrL [.int .i64 L, .int .i64 U, .lst os n g1 g2, mt, .undef] 0
abbrev ask62 (p : AV) : AV := .fn (.func 62) [] [.ptrL [p] 0]
def tIv (l f : AV) (m : Nat) (i : Int) : T := tOf 19 [(0, l), (1, f), (7, .int .i64 (.ofNat m)), (8, .int .i64 i)]
section
variable (L U : Int) (os cs : List AV) (m i : Nat) (g1 g2 tt nl : Bool) (o1 : AV)
theorem start41v (n : Nat) : bodyY Tryz.prog G0 XS YS 5 8 D41v Res.val? 1000 Tryz.prog.funcs[41]? [.lst cs m tt nl, ask62 (stoV L U os n g1 g2)] St.empty = L41v Tryz.prog 1000 (tIv (.lst cs m tt nl) (ask62 (stoV L U os n g1 g2)) m 0) St.empty := by kernel_rfl
theorem step41v0 (N : Nat) : L41v Tryz.prog (N + 1) (tIv (.lst cs m tt nl) (ask62 (stoV L U os 0 g1 g2)) m (.ofNat i)) St.empty =
    byB (!leI (.ofNat m) (.ofNat i)) (ifK (Nat.blt i m && nonNil cs) (opt2 (fun a b => ifK (AV.plain (stoV L U os 0 g1 g2)) (byB (sndB 0 a b) (ifK (AV.under 0 (.lst cs m tt nl)) (ifK (AV.under 0 (ask62 (stoV L U os 0 g1 g2))) (L41v Tryz.prog N (tIv (.lst cs m tt nl) (ask62 (stoV L U os 0 g1 g2)) m (IntKind.i64.wrap (.ofNat i + 1))) St.empty))) (some (.int .i64 (.ofNat i))))) (cutN 2 (i * 2) cs)))
      (some (.int .i64 (-1))) := by kernel_rfl
theorem step41v1 (N n : Nat) : L41v Tryz.prog (N + 1) (tIv (.lst cs m tt nl) (ask62 (stoV L U (o1 :: os) (n + 1) g1 g2)) m (.ofNat i)) St.empty =
    byB (!leI (.ofNat m) (.ofNat i)) (ifK (Nat.blt i m && nonNil cs) (opt2 (fun a b => ifK (AV.plain (stoV L U (o1 :: os) (n + 1) g1 g2)) (byB (sndB (n + 1) a b) (ifK (AV.under 0 (.lst cs m tt nl)) (ifK (AV.under 0 (ask62 (stoV L U (o1 :: os) (n + 1) g1 g2))) (L41v Tryz.prog N (tIv (.lst cs m tt nl) (ask62 (stoV L U (o1 :: os) (n + 1) g1 g2)) m (IntKind.i64.wrap (.ofNat i + 1))) St.empty))) (some (.int .i64 (.ofNat i))))) (cutN 2 (i * 2) cs)))
      (some (.int .i64 (-1))) := by kernel_rfl
end

theorem main41v (L U : Int) (os : List AV) (n : Nat) (g1 g2 : Bool) (hos : n = 0 ∨ ∃ m o r, n = m + 1 ∧ os = o :: r) (l : List V2) (tt nl : Bool) (h : okAll n l = true) (hu : AV.under 0 (ask62 (stoV L U os n g1 g2)) = true) (hp : AV.plain (stoV L U os n g1 g2) = true) : ∀ (N i : Nat), l.length < i + N → i ≤ l.length → l.length ≤ 100000 →
    L41v Tryz.prog N (tIv (.lst (cellsA l) l.length tt nl) (ask62 (stoV L U os n g1 g2)) l.length (.ofNat i)) St.empty = some (.int .i64 (-1))
  | 0, i, h1, h2, _ => absurd h1 (by omega)
  | N + 1, i, h1, h2, h3 => by
    have step : L41v Tryz.prog (N + 1) (tIv (.lst (cellsA l) l.length tt nl) (ask62 (stoV L U os n g1 g2)) l.length (.ofNat i)) St.empty =
      byB (!leI (.ofNat l.length) (.ofNat i)) (ifK (Nat.blt i l.length && nonNil (cellsA l)) (opt2 (fun a b => ifK (AV.plain (stoV L U os n g1 g2)) (byB (sndB n a b) (ifK (AV.under 0 (.lst (cellsA l) l.length tt nl)) (ifK (AV.under 0 (ask62 (stoV L U os n g1 g2))) (L41v Tryz.prog N (tIv (.lst (cellsA l) l.length tt nl) (ask62 (stoV L U os n g1 g2)) l.length (IntKind.i64.wrap (.ofNat i + 1))) St.empty))) (some (.int .i64 (.ofNat i))))) (cutN 2 (i * 2) (cellsA l))))
      (some (.int .i64 (-1))) := by
      rcases hos with rfl | ⟨m, o, r, rfl, rfl⟩
      · exact step41v0 L U os _ _ i g1 g2 tt nl N
      · exact step41v1 L U r _ _ i g1 g2 tt nl o N m
    rw [step, leN, hu, hp]
    rcases Nat.lt_or_ge i l.length with hlt | hge
    · obtain ⟨c1, c2⟩ := cells_cut l i _ (List.getElem?_eq_getElem hlt)
      have hb : Nat.blt i l.length = true := Nat.ble_eq_true_of_le hlt
      have hb2 : Nat.ble l.length i = false := by
        cases hx : Nat.ble l.length i with
        | false => rfl
        | true => have := Nat.le_of_ble_eq_true hx; omega
      have hs : sndB n (l[i]).1 (l[i]).2 = true := List.all_eq_true.1 h _ (List.getElem_mem hlt)
      have hi : IntKind.i64.wrap (Int.ofNat i + 1) = Int.ofNat (i + 1) := by
        rw [wrap64 (by simp only [Int.ofNat_eq_natCast]; omega) (by simp only [Int.ofNat_eq_natCast]; omega)]
        rfl
      rw [hb2, c1, c2, hb]
      show byB (sndB n (l[i]).1 (l[i]).2) (ifK (AV.unders 0 (cellsA l)) (L41v Tryz.prog N (tIv _ _ _ (IntKind.i64.wrap (Int.ofNat i + 1))) _)) _ = _
      rw [hs, cellsA_unders, hi]
      exact main41v L U os n g1 g2 hos l tt nl h hu hp N (i + 1) (by omega) (by omega) h3
    · have : i = l.length := by omega
      subst this
      rw [Nat.ble_eq_true_of_le (Nat.le_refl _)]
      rfl

def F41v : List AV → Option (Bool × AV)
  | [.lst cs m _ _, .fn (.func 62) [] [.ptrL [.ptrL [.int .i64 L, .int .i64 U, .lst os n g1 g2, .lst [] 0 true true, .undef] 0] 0]] => match n, os with
    | 0, os => some (isCells cs m && (Nat.ble m 900 && (okAll 0 (ofCells cs) && (AV.under 0 (ask62 (stoV L U os 0 g1 g2)) && AV.plain (stoV L U os 0 g1 g2)))), .int .i64 (-1))
    | n + 1, o :: os => some (isCells cs m && (Nat.ble m 900 && (okAll (n + 1) (ofCells cs) && (AV.under 0 (ask62 (stoV L U (o :: os) (n + 1) g1 g2)) && AV.plain (stoV L U (o :: os) (n + 1) g1 g2)))), .int .i64 (-1))
    | _, _ => none
  | _ => none
theorem k41v : ViewOk Tryz.prog G0 41 F41v := view_known (D := D41v) (m := 1000) (loops := 5) (n := 8) hm hn G0_plain kXS kYS fun ar x hF => by
  unfold F41v at hF
  split at hF
  · rename_i cs m tt nl L U os n g1 g2
    have fin : ∀ (os : List AV) (n : Nat), (n = 0 ∨ ∃ m o r, n = m + 1 ∧ os = o :: r) → isCells cs m = true ∧ Nat.ble m 900 = true ∧ okAll n (ofCells cs) = true ∧ AV.under 0 (ask62 (stoV L U os n g1 g2)) = true ∧ AV.plain (stoV L U os n g1 g2) = true →
        bodyY Tryz.prog G0 XS YS 5 8 D41v Res.val? 1000 Tryz.prog.funcs[41]? [.lst cs m tt nl, ask62 (stoV L U os n g1 g2)] St.empty = some (.int .i64 (-1)) := fun os n hos ⟨h1, h2, h5, h6, h7⟩ => by
      obtain ⟨h3, h4⟩ := isCells_eq h1
      have hm9 : m ≤ 900 := Nat.le_of_ble_eq_true h2
      rw [start41v]
      have := main41v L U os n g1 g2 hos (ofCells cs) tt nl h5 h6 h7 1000 0 (by omega) (by omega) (by omega)
      rw [← h3, h4] at this
      exact this
    split at hF
    · simp only [Option.some.injEq, Prod.mk.injEq, Bool.and_eq_true] at hF
      obtain ⟨h1, rfl⟩ := hF
      exact ⟨rfl, fin _ 0 (.inl rfl) h1⟩
    · simp only [Option.some.injEq, Prod.mk.injEq, Bool.and_eq_true] at hF
      obtain ⟨h1, rfl⟩ := hF
      exact ⟨rfl, fin _ _ (.inr ⟨_, _, _, rfl, rfl⟩) h1⟩
    · cases hF
  · cases hF
end Go.Am.Sto
end
section
set_option autoImplicit false
set_option maxRecDepth 100000
namespace Go.Am.Sto
open Go Go.Am Go.Proofs

def XS2 : Known := XS.add 41 (viewX F41v)
def YS2 {β : Type} : KnownK β := YS.add 41 (viewK F41v)
theorem kXS2 : KnownOk Tryz.prog G0 XS2 := kXS.add k41v
theorem kYS2 {β : Type} : KnownKOk XS2 (YS2 : KnownK β) := by
  intro g q hq
  unfold YS2 KnownK.add at hq
  rcases Bool.eq_false_or_eq_true (Nat.beq g 41) with hb | hb
  · rw [cond_of_true hb] at hq
    cases hq
    exact ⟨viewX F41v, by unfold XS2 Known.add; rw [cond_of_true hb], viewK_le F41v⟩
  · rw [cond_of_false hb] at hq
    obtain ⟨h, h1, h2⟩ := (kYS (β := β)) g q hq
    exact ⟨h, by unfold XS2 Known.add; rw [cond_of_false hb]; exact h1, h2⟩
def runVec (P : Program) (j r q : Nat) (l : List (TypeId × List AV)) (slots : AV) : Option (AV × RowI × RowI × RowI × RowI) :=
  bodyY P G0 XS2 YS2 5 8 noLive (mkR j r q) 5 P.funcs[38]? [.ptr 0 0, .int .i64 2, slots] (St.rows l)
abbrev zero2 : List AV := [.int .i64 0, .int .i64 0]
abbrev new2 (n : Int) : List AV := [.int .i64 7, .int .i64 n]
abbrev lastN (n : Nat) : Int := IntKind.i64.wrap ((.ofNat (n + 1 + 1)) - 1)
def stale (x n : Nat) : Bool := Nat.beq 0 (bif Nat.ble (1 + x) (1 + 0 + n * 10) then 0 else 0 + 1)
def preV (cs : List AV) (m n : Nat) (s : AV) : Bool := isCells cs m && (Nat.ble m 900 && (okAll n (ofCells cs) && (AV.under 0 (ask62 s) && AV.plain s)))
section
variable (L U : Int) (tt : Bool) (m : Nat) (cs : List AV) (o : Ob × Value) (rs : List (Ob × Value))
theorem vec00 : runVec Tryz.prog 0 6 4 [(66, sto0 L U)] (.lst [] 0 tt true) =
    ifK (chk1 L U) (byB (full L U 0) (some (errV 16, some (sto0 L U, 66, true), some (sto0 L U, 66, true), none, some (zero2, 29, true)))
      (ifK (chk2 U) (some (objV 0, some (sto1 L (pay U 0) 6 1, 66, true), some (sto1 L (pay U 0) 6 1, 66, true), some (.int .i64 2 :: mt :: rest8, 115, true), some (new2 0, 29, true))))) := by kernel_rfl
theorem vec01 : runVec Tryz.prog 0 8 4 [(66, sto0 L U)] (.lst cs (m + 1) tt false) =
    ifK (AV.plain (.lst cs (m + 1) tt false)) (ifK (preV cs (m + 1) 0 (stoV L U [] 0 true true)) (ifK (Nat.ble (0 + (m + 1)) 1073741824) (optK (fun new => ifK (new.all AV.single)
      (ifK (chk1 L U) (byB (full L U (0 + (m + 1))) (some (errV 16, some (sto0 L U, 66, true), some (sto0 L U, 66, true), none, some (new, 29, true)))
        (ifK (chk2 U) (some (objV 0, some (sto1 L (pay U (0 + (m + 1))) 8 1, 66, true), some (sto1 L (pay U (0 + (m + 1))) 8 1, 66, true), some (.int .i64 2 :: .sl 4 0 (0 + (m + 1)) 2 false :: rest8, 115, true), some (new, 29, true))))))) (takeN ((m + 1) * 2) cs)))) := by kernel_rfl
theorem vec10 : runVec Tryz.prog 1 7 5 [(66, sto1 L U 1 (rs.length + 1)), (115, objsP (o :: rs))] (.lst [] 0 tt true) =
    ifK (preV [] 0 (rs.length + 1) (stoV L U (blurL (objsP (o :: rs))) (rs.length + 1) false false)) (ifK (chk1 L U) (byB (full L U 0) (some (errV 16, some (sto1 L U 1 (rs.length + 1), 66, true), some (objsP (o :: rs), 115, true), none, some (zero2, 29, true)))
      (ifK (chk2 U) (ifK (Nat.ble (rs.length + 1 + 1) 1073741824) (optK (fun old => some (objV (lastN rs.length), some (sto1 L (pay U 0) 7 (rs.length + 1 + 1), 66, true), some (objsP (o :: rs), 115, stale (objsP (o :: rs)).length (rs.length + 1)),
        some (old ++ (.int .i64 2 :: mt :: rest8), 115, fresh1 (objsP (o :: rs)).length (rs.length + 1)), some (new2 (lastN rs.length), 29, true))) (cutN ((rs.length + 1) * 10) 0 (objsP (o :: rs)))))))) := by kernel_rfl
theorem vec11 : runVec Tryz.prog 1 9 5 [(66, sto1 L U 1 (rs.length + 1)), (115, objsP (o :: rs))] (.lst cs (m + 1) tt false) =
    ifK (AV.plain (.lst cs (m + 1) tt false)) (ifK (preV cs (m + 1) (rs.length + 1) (stoV L U (blurL (objsP (o :: rs))) (rs.length + 1) false false)) (ifK (Nat.ble (0 + (m + 1)) 1073741824) (optK (fun new => ifK (new.all AV.single)
      (ifK (chk1 L U) (byB (full L U (0 + (m + 1))) (some (errV 16, some (sto1 L U 1 (rs.length + 1), 66, true), some (objsP (o :: rs), 115, true), none, some (new, 29, true)))
        (ifK (chk2 U) (ifK (Nat.ble (rs.length + 1 + 1) 1073741824) (optK (fun old => some (objV (lastN rs.length), some (sto1 L (pay U (0 + (m + 1))) 9 (rs.length + 1 + 1), 66, true), some (objsP (o :: rs), 115, stale (objsP (o :: rs)).length (rs.length + 1)),
          some (old ++ (.int .i64 2 :: .sl 5 0 (0 + (m + 1)) 2 false :: rest8), 115, fresh1 (objsP (o :: rs)).length (rs.length + 1)), some (new, 29, true))) (cutN ((rs.length + 1) * 10) 0 (objsP (o :: rs))))))))) (takeN ((m + 1) * 2) cs)))) := by kernel_rfl
end
end Go.Am.Sto
end
section
set_option autoImplicit false
set_option maxRecDepth 100000
namespace Go.Am.Sto
open Go Go.Am Go.Proofs

def F38v (d : Hid) : List AV → Option (Bool × AV × Hid)
  | [.hptr 0, .int .i64 2, .lst cs m _ nl] => some (isCells cs m && (Nat.ble m 900 && (okAll d.rows.length (ofCells cs) && (bif m.beq 0 then nl else !nl))), getV (mkOf d 2 (ofCells cs)).1, (mkOf d 2 (ofCells cs)).2)
  | _ => none

theorem blur_unders (nb : Nat) : ∀ rs : List (Ob × Value), AV.unders nb (blurL (objsP rs)) = true ∧ AV.plains (blurL (objsP rs)) = true
  | [] => ⟨rfl, rfl⟩
  | p :: rs => by
    obtain ⟨h1, h2⟩ := blur_unders nb rs
    exact ⟨h1, h2⟩
theorem ask_under (L U : Int) (rs : List (Ob × Value)) (n : Nat) : AV.under 0 (ask62 (stoV L U (blurL (objsP rs)) n false false)) = true := by
  simp [AV.under, AV.unders, (blur_unders 0 rs).1]
theorem sto_plain (L U : Int) (rs : List (Ob × Value)) (n : Nat) : AV.plain (stoV L U (blurL (objsP rs)) n false false) = true := by
  simp [AV.plain, AV.plains, (blur_unders 0 rs).2]
theorem cellsA_take (l : List V2) : takeN (l.length * 2) (cellsA l) = some (cellsA l) := cellsA_cut l l.length rfl

theorem k38v : MethOk Tryz.prog G0 38 F38v := pres_known (D := noLive) (m := 5) (loops := 5) (n := 8) (Sees := Sees) (Ends := Ends) hm hn G0_plain kXS2 sees (fun d b own w l ar x d' hS hF => by
  unfold F38v at hF
  split at hF
  · rename_i cs m tt nl
    obtain ⟨L, U, s1, s2, s3, s4, s5, s6⟩ := hS
    simp only [Option.some.injEq, Prod.mk.injEq, Bool.and_eq_true] at hF
    obtain ⟨⟨p1, p2, p3, p4⟩, rfl, rfl⟩ := hF
    obtain ⟨p5, p6⟩ := isCells_eq p1
    have hm9 : m ≤ 900 := Nat.le_of_ble_eq_true p2
    generalize hsl : ofCells cs = sl at *
    subst p5
    have hmk : mkOf d 2 sl = byB (full L U m) (((0, 0), 16), d) (((7, .ofNat d.rows.length), 0), ⟨0, [L, pay U m], d.rows ++ [(2, sl)], []⟩) := by
      unfold mkOf; rw [s2]; simp only [p3, p6]
    rw [hmk]
    refine ⟨_, rfl, ?_⟩
    have hplain : AV.plains [.int .i64 2, .lst (cellsA sl) m tt nl] = true := by
      show (AV.plain (.int .i64 2) && (AV.plains (cellsA sl) && true)) = true
      rw [cellsA_plains]; rfl
    refine ⟨hplain, ?_⟩
    have run : ∀ {ll : List (TypeId × List AV)} {slots : AV} {j r q : Nat} {x a b c e}, runVec Tryz.prog j r q ll slots = some (x, a, b, c, e) → ∃ s', bodyD Tryz.prog G0 (callN Tryz.prog G0 XS2 5 8) noLive 5 Tryz.prog.funcs[38]? [.ptr 0 0, .int .i64 2, slots] (St.rows ll) = .ret x s' ∧ rowI s' 0 = a ∧ rowI s' j = b ∧ rowI s' r = c ∧ rowI s' q = e := fun h => of_mkR (bodyY_le kYS2 h)
    cases m with
    | zero =>
      have hs0 : sl = [] := List.eq_nil_of_length_eq_zero p6
      subst hs0
      simp only [Nat.beq, cond_true] at p4
      subst p4
      rcases s6 with ⟨h7, rfl⟩ | ⟨bo, base, o, rs, sb, m1, rfl, m3, m4, m5⟩
      · have hn0 : d.rows.length = 0 := by rw [h7]; rfl
        have tree := vec00 L U tt
        rw [chk1_t, chk2_t] at tree
        cases hfu : full L U 0 with
        | true =>
          rw [hfu] at tree
          obtain ⟨s', r1, r2, _⟩ := run tree
          exact ⟨rfl, s', r1, ends_same0 r2⟩
        | false =>
          rw [hfu] at tree
          obtain ⟨s', r1, r2, _, r3, r4⟩ := run tree
          rw [hn0]
          exact ⟨rfl, s', r1, .inr ⟨L, U, pay U 0, 6, 4, 2, [], [], mt, s2, rfl, fit_more s4 (by omega) hfu, by rw [hn0]; exact r2, r3, .inl ⟨rfl, rfl⟩, .inr ⟨rfl, rfl⟩⟩⟩
      · have hn1 : d.rows.length = rs.length + 1 := by rw [← m1]; simp
        have tree := vec10 L U tt o rs
        have hble : Nat.ble (rs.length + 1 + 1) 1073741824 = true := Nat.ble_eq_true_of_le (by
          obtain ⟨q1, q2, q3, q4⟩ := s4
          rw [hn1] at q4; omega)
        have hpre : preV [] 0 (rs.length + 1) (stoV L U (blurL (objsP (o :: rs))) (rs.length + 1) false false) = true := by
          unfold preV
          rw [ask_under L U (o :: rs), sto_plain L U (o :: rs)]; rfl
        rw [hpre, chk1_t, chk2_t, hble, cut_objs (o :: rs) (rs.length + 1) rfl] at tree
        cases hfu : full L U 0 with
        | true =>
          rw [hfu] at tree
          obtain ⟨s', r1, r2, r3, _⟩ := run tree
          exact ⟨rfl, s', r1, ends_same1 r2 r3⟩
        | false =>
          rw [hfu] at tree
          have hi : lastN rs.length = Int.ofNat (rs.length + 1) := by
            obtain ⟨q1, q2, q3, q4⟩ := s4
            rw [hn1] at q4
            unfold lastN
            rw [wrap64 (by simp only [Int.ofNat_eq_natCast]; omega) (by simp only [Int.ofNat_eq_natCast]; omega)]
            simp only [Int.ofNat_eq_natCast]; omega
          have tree2 : runVec Tryz.prog 1 7 5 [(66, sto1 L U 1 (rs.length + 1)), (115, objsP (o :: rs))] (.lst [] 0 tt true) = some (objV (lastN rs.length), some (sto1 L (pay U 0) 7 (rs.length + 1 + 1), 66, true), some (objsP (o :: rs), 115, stale (objsP (o :: rs)).length (rs.length + 1)),
            some (objsP (o :: rs) ++ (.int .i64 2 :: mt :: rest8), 115, fresh1 (objsP (o :: rs)).length (rs.length + 1)), some (new2 (lastN rs.length), 29, true)) := tree
          rw [hi, show fresh1 (objsP (o :: rs)).length (rs.length + 1) = true from beq_self' _] at tree2
          obtain ⟨s', r1, r2, _, r3, r4⟩ := run tree2
          rw [hn1]
          exact ⟨rfl, s', r1, .inr ⟨L, U, pay U 0, 7, 5, 2, [], objsP (o :: rs), mt, s2, rfl, fit_more s4 (by omega) hfu, by rw [hn1]; exact r2, r3, .inr ⟨_, rfl, rfl⟩, .inr ⟨rfl, rfl⟩⟩⟩
    | succ m =>
      have hne : sl ≠ [] := fun e => by rw [e] at p6; cases p6
      have hnl : nl = false := by simpa [Nat.beq] using p4
      subst hnl
      have hpl : AV.plain (.lst (cellsA sl) (m + 1) tt false) = true := by
        show AV.plains (cellsA sl) = true
        exact cellsA_plains sl
      have h30 : Nat.ble (0 + (m + 1)) 1073741824 = true := Nat.ble_eq_true_of_le (by omega)
      have htk : takeN ((m + 1) * 2) (cellsA sl) = some (cellsA sl) := by rw [← p6]; exact cellsA_take sl
      have h0m : 0 + (m + 1) = m + 1 := by omega
      rcases s6 with ⟨h7, rfl⟩ | ⟨bo, base, o, rs, sb, m1, rfl, m3, m4, m5⟩
      · have hn0 : d.rows.length = 0 := by rw [h7]; rfl
        have tree := vec01 L U tt m (cellsA sl)
        have hpre : preV (cellsA sl) (m + 1) 0 (stoV L U [] 0 true true) = true := by
          unfold preV
          rw [hn0] at p3
          rw [p1, p2, ofCells_cells, p3]; rfl
        rw [hpl, hpre, h30, htk] at tree
        have tree : ifK ((cellsA sl).all AV.single) (ifK (chk1 L U) (byB (full L U (0 + (m + 1))) (some (errV 16, some (sto0 L U, 66, true), some (sto0 L U, 66, true), none, some (cellsA sl, 29, true)))
          (ifK (chk2 U) (some (objV 0, some (sto1 L (pay U (0 + (m + 1))) 8 1, 66, true), some (sto1 L (pay U (0 + (m + 1))) 8 1, 66, true), some (.int .i64 2 :: .sl 4 0 (0 + (m + 1)) 2 false :: rest8, 115, true), some (cellsA sl, 29, true)))))) = runVec Tryz.prog 0 8 4 [(66, sto0 L U)] (.lst (cellsA sl) (m + 1) tt false) := tree.symm
        rw [cellsA_single, chk1_t, chk2_t, h0m] at tree
        cases hfu : full L U (m + 1) with
        | true =>
          rw [hfu] at tree
          obtain ⟨s', r1, r2, _⟩ := run tree.symm
          exact ⟨rfl, s', r1, ends_same0 r2⟩
        | false =>
          rw [hfu] at tree
          obtain ⟨s', r1, r2, _, r3, r4⟩ := run tree.symm
          rw [hn0]
          exact ⟨rfl, s', r1, .inr ⟨L, U, pay U (m + 1), 8, 4, 2, sl, [], _, s2, rfl, fit_more s4 (by omega) hfu, by rw [hn0]; exact r2, r3, .inl ⟨rfl, rfl⟩, .inl ⟨hne, by rw [p6], r4⟩⟩⟩
      · have hn1 : d.rows.length = rs.length + 1 := by rw [← m1]; simp
        have tree := vec11 L U tt m (cellsA sl) o rs
        have hble : Nat.ble (rs.length + 1 + 1) 1073741824 = true := Nat.ble_eq_true_of_le (by
          obtain ⟨q1, q2, q3, q4⟩ := s4
          rw [hn1] at q4; omega)
        have hpre : preV (cellsA sl) (m + 1) (rs.length + 1) (stoV L U (blurL (objsP (o :: rs))) (rs.length + 1) false false) = true := by
          unfold preV
          rw [hn1] at p3
          rw [p1, p2, ofCells_cells, p3, ask_under L U (o :: rs), sto_plain L U (o :: rs)]; rfl
        rw [hpl, hpre, h30, htk] at tree
        have tree : ifK ((cellsA sl).all AV.single) (ifK (chk1 L U) (byB (full L U (0 + (m + 1))) (some (errV 16, some (sto1 L U 1 (rs.length + 1), 66, true), some (objsP (o :: rs), 115, true), none, some (cellsA sl, 29, true)))
          (ifK (chk2 U) (ifK (Nat.ble (rs.length + 1 + 1) 1073741824) (optK (fun old => some (objV (lastN rs.length), some (sto1 L (pay U (0 + (m + 1))) 9 (rs.length + 1 + 1), 66, true), some (objsP (o :: rs), 115, stale (objsP (o :: rs)).length (rs.length + 1)),
          some (old ++ (.int .i64 2 :: .sl 5 0 (0 + (m + 1)) 2 false :: rest8), 115, fresh1 (objsP (o :: rs)).length (rs.length + 1)), some (cellsA sl, 29, true))) (cutN ((rs.length + 1) * 10) 0 (objsP (o :: rs)))))))) = runVec Tryz.prog 1 9 5 [(66, sto1 L U 1 (rs.length + 1)), (115, objsP (o :: rs))] (.lst (cellsA sl) (m + 1) tt false) := tree.symm
        rw [cellsA_single, chk1_t, chk2_t, h0m, hble, cut_objs (o :: rs) (rs.length + 1) rfl] at tree
        cases hfu : full L U (m + 1) with
        | true =>
          rw [hfu] at tree
          obtain ⟨s', r1, r2, r3, _⟩ := run tree.symm
          exact ⟨rfl, s', r1, ends_same1 r2 r3⟩
        | false =>
          rw [hfu] at tree
          have hi : lastN rs.length = Int.ofNat (rs.length + 1) := by
            obtain ⟨q1, q2, q3, q4⟩ := s4
            rw [hn1] at q4
            unfold lastN
            rw [wrap64 (by simp only [Int.ofNat_eq_natCast]; omega) (by simp only [Int.ofNat_eq_natCast]; omega)]
            simp only [Int.ofNat_eq_natCast]; omega
          have tree2 : runVec Tryz.prog 1 9 5 [(66, sto1 L U 1 (rs.length + 1)), (115, objsP (o :: rs))] (.lst (cellsA sl) (m + 1) tt false) = some (objV (lastN rs.length), some (sto1 L (pay U (m + 1)) 9 (rs.length + 1 + 1), 66, true), some (objsP (o :: rs), 115, stale (objsP (o :: rs)).length (rs.length + 1)),
            some (objsP (o :: rs) ++ (.int .i64 2 :: .sl 5 0 (m + 1) 2 false :: rest8), 115, fresh1 (objsP (o :: rs)).length (rs.length + 1)), some (cellsA sl, 29, true)) := tree.symm
          rw [hi, show fresh1 (objsP (o :: rs)).length (rs.length + 1) = true from beq_self' _] at tree2
          obtain ⟨s', r1, r2, _, r3, r4⟩ := run tree2
          rw [hn1]
          exact ⟨rfl, s', r1, .inr ⟨L, U, pay U (m + 1), 9, 5, 2, sl, objsP (o :: rs), _, s2, rfl, fit_more s4 (by omega) hfu, by rw [hn1]; exact r2, r3, .inr ⟨_, rfl, rfl⟩, .inl ⟨hne, by rw [p6], r4⟩⟩⟩
  · cases hF) ends
end Go.Am.Sto
end
