import Derived.Test.YtlibahklbbachaaGreatDoorTx22
import Derived.Test.YtlibahklbbachaaGreatDoorTx21
set_option autoImplicit false
set_option maxRecDepth 100000
set_option linter.unusedSimpArgs false
set_option linter.unusedVariables false
section
namespace Go.Am.Sto
open Go Go.Am Go.Proofs
def F38u (d : Hid) : List AV → Option (Bool × AV × Hid)
  | [.hptr 0, .int .i64 5, .lst cs m _ nl] => some (isCells cs m && (Nat.ble m 4500 && (okAll d.rows.length (ofCells cs) && (bif m.beq 0 then nl else !nl))), getV (mkOf d 5 (ofCells cs)).1, (mkOf d 5 (ofCells cs)).2)
  | _ => none
theorem k38u : MethOk Tryz.prog G0 38 F38u := pres_known (D := noLive) (m := 5) (loops := 5) (n := 8) (Sees := Sees) (Ends := Ends) hm hn G0_plain kXS2 sees (fun d b own w l ar x d' hS hF => by
  unfold F38u at hF
  split at hF
  · rename_i cs m tt nl
    obtain ⟨L, U, nv, mv, s1, s2, s3, s4, s5, s6⟩ := hS
    simp only [Option.some.injEq, Prod.mk.injEq, Bool.and_eq_true] at hF
    obtain ⟨⟨p1, p2, p3, p4⟩, rfl, rfl⟩ := hF
    obtain ⟨p5, p6⟩ := isCells_eq p1
    have hm9 : m ≤ 4500 := Nat.le_of_ble_eq_true p2
    generalize hsl : ofCells cs = sl at *
    subst p5
    have hmk : mkOf d 5 sl = byB (full L U m) (((0, 0), 16), d) (((7, .ofNat d.rows.length), 0), ⟨0, [L, pay U m], d.rows ++ [(5, sl)], d.names⟩) := by
      unfold mkOf; rw [s2]; simp only [p3, p6]
    rw [hmk]
    refine ⟨_, rfl, ?_⟩
    have hplain : AV.plains [.int .i64 5, .lst (cellsA sl) m tt nl] = true := by
      show (AV.plain (.int .i64 5) && (AV.plains (cellsA sl) && true)) = true
      rw [cellsA_plains]; rfl
    refine ⟨hplain, ?_⟩
    have run : ∀ {ll : List (TypeId × List AV)} {slots : AV} {j r q : Nat} {x a b c e}, runBig Tryz.prog j r q ll slots = some (x, a, b, c, e) → ∃ s', bodyD Tryz.prog G0 (callN Tryz.prog G0 XS2 5 8) noLive 5 Tryz.prog.funcs[38]? [.ptr 0 0, .int .i64 5, slots] (St.rows ll) = .ret x s' ∧ rowI s' 0 = a ∧ rowI s' j = b ∧ rowI s' r = c ∧ rowI s' q = e := fun h => of_mkR (bodyY_le kYS2 h)
    cases m with
    | zero =>
      have hs0 : sl = [] := List.eq_nil_of_length_eq_zero p6
      subst hs0
      simp only [Nat.beq, cond_true] at p4
      subst p4
      rcases s6 with ⟨h7, rfl⟩ | ⟨bo, base, o, rs, sb, m1, rfl, m3, m4, m5⟩
      · have hn0 : d.rows.length = 0 := by rw [h7]; rfl
        have tree := big00 nv mv L U tt
        rw [chk1_t, chk2_t] at tree
        cases hfu : full L U 0 with
        | true =>
          rw [hfu] at tree
          obtain ⟨s', r1, r2, _⟩ := run tree
          exact ⟨rfl, s', r1, ends_same0 r2⟩
        | false =>
          rw [hfu] at tree
          obtain ⟨s', r1, r2, _, r3, r4⟩ := run tree
          rw [hn0]
          exact ⟨rfl, s', r1, .inr ⟨L, U, pay U 0, 6, 4, 5, [], [], mt, s2, rfl, fit_more s4 (by omega) hfu, by rw [hn0]; exact r2, r3, .inl ⟨rfl, rfl⟩, .inr ⟨rfl, rfl⟩⟩⟩
      · have hn1 : d.rows.length = rs.length + 1 := by rw [← m1]; simp
        have tree := big10 nv mv L U tt o rs
        have hble : Nat.ble (rs.length + 1 + 1) 1073741824 = true := Nat.ble_eq_true_of_le (by
          obtain ⟨q1, q2, q3, q4⟩ := s4
          rw [hn1] at q4; omega)
        have hpre : preV [] 0 (rs.length + 1) (stoV nv mv L U (blurL (objsP (o :: rs))) (rs.length + 1) false false) = true := by
          unfold preV
          rw [ask_under nv mv L U (o :: rs), sto_plain nv mv L U (o :: rs)]; rfl
        rw [hpre, chk1_t, chk2_t, hble, cut_objs (o :: rs) (rs.length + 1) rfl] at tree
        cases hfu : full L U 0 with
        | true =>
          rw [hfu] at tree
          obtain ⟨s', r1, r2, r3, _⟩ := run tree
          exact ⟨rfl, s', r1, ends_same1 r2 r3⟩
        | false =>
          rw [hfu] at tree
          have hi : lastN rs.length = Int.ofNat (rs.length + 1) := by
            obtain ⟨q1, q2, q3, q4⟩ := s4
            rw [hn1] at q4
            unfold lastN
            rw [wrap64 (by simp only [Int.ofNat_eq_natCast]; omega) (by simp only [Int.ofNat_eq_natCast]; omega)]
            simp only [Int.ofNat_eq_natCast]; omega
          have tree2 : runBig Tryz.prog 1 7 5 [(66, sto1 nv mv L U 1 (rs.length + 1)), (115, objsP (o :: rs))] (.lst [] 0 tt true) = some (objV (lastN rs.length), some (sto1 nv mv L (pay U 0) 7 (rs.length + 1 + 1), 66, true), some (objsP (o :: rs), 115, stale (objsP (o :: rs)).length (rs.length + 1)),
            some (objsP (o :: rs) ++ (.int .i64 5 :: mt :: rest8), 115, fresh1 (objsP (o :: rs)).length (rs.length + 1)), some (new2 (lastN rs.length), 29, true)) := tree
          rw [hi, show fresh1 (objsP (o :: rs)).length (rs.length + 1) = true from beq_self' _] at tree2
          obtain ⟨s', r1, r2, _, r3, r4⟩ := run tree2
          rw [hn1]
          exact ⟨rfl, s', r1, .inr ⟨L, U, pay U 0, 7, 5, 5, [], objsP (o :: rs), mt, s2, rfl, fit_more s4 (by omega) hfu, by rw [hn1]; exact r2, r3, .inr ⟨_, rfl, rfl⟩, .inr ⟨rfl, rfl⟩⟩⟩
    | succ m =>
      have hne : sl ≠ [] := fun e => by rw [e] at p6; cases p6
      have hnl : nl = false := by simpa [Nat.beq] using p4
      subst hnl
      have hpl : AV.plain (.lst (cellsA sl) (m + 1) tt false) = true := by
        show AV.plains (cellsA sl) = true
        exact cellsA_plains sl
      have h30 : Nat.ble (0 + (m + 1)) 1073741824 = true := Nat.ble_eq_true_of_le (by omega)
      have htk : takeN ((m + 1) * 2) (cellsA sl) = some (cellsA sl) := by rw [← p6]; exact cellsA_take sl
      have h0m : 0 + (m + 1) = m + 1 := by omega
      rcases s6 with ⟨h7, rfl⟩ | ⟨bo, base, o, rs, sb, m1, rfl, m3, m4, m5⟩
      · have hn0 : d.rows.length = 0 := by rw [h7]; rfl
        have tree := big01 nv mv L U tt m (cellsA sl)
        have hpre : preV (cellsA sl) (m + 1) 0 (stoV nv mv L U [] 0 true true) = true := by
          unfold preV
          rw [hn0] at p3
          rw [p1, p2, ofCells_cells, p3]; rfl
        rw [hpl, hpre, h30, htk] at tree
        have tree : ifK ((cellsA sl).all AV.single) (ifK (chk1 L U) (byB (full L U (0 + (m + 1))) (some (errV 16, some (sto0 nv mv L U, 66, true), some (sto0 nv mv L U, 66, true), none, some (cellsA sl, 29, true)))
          (ifK (chk2 U) (some (objV 0, some (sto1 nv mv L (pay U (0 + (m + 1))) 8 1, 66, true), some (sto1 nv mv L (pay U (0 + (m + 1))) 8 1, 66, true), some (.int .i64 5 :: .sl 4 0 (0 + (m + 1)) 2 false :: rest8, 115, true), some (cellsA sl, 29, true)))))) = runBig Tryz.prog 0 8 4 [(66, sto0 nv mv L U)] (.lst (cellsA sl) (m + 1) tt false) := tree.symm
        rw [cellsA_single, chk1_t, chk2_t, h0m] at tree
        cases hfu : full L U (m + 1) with
        | true =>
          rw [hfu] at tree
          obtain ⟨s', r1, r2, _⟩ := run tree.symm
          exact ⟨rfl, s', r1, ends_same0 r2⟩
        | false =>
          rw [hfu] at tree
          obtain ⟨s', r1, r2, _, r3, r4⟩ := run tree.symm
          rw [hn0]
          exact ⟨rfl, s', r1, .inr ⟨L, U, pay U (m + 1), 8, 4, 5, sl, [], _, s2, rfl, fit_more s4 (by omega) hfu, by rw [hn0]; exact r2, r3, .inl ⟨rfl, rfl⟩, .inl ⟨hne, by rw [p6], r4⟩⟩⟩
      · have hn1 : d.rows.length = rs.length + 1 := by rw [← m1]; simp
        have tree := big11 nv mv L U tt m (cellsA sl) o rs
        have hble : Nat.ble (rs.length + 1 + 1) 1073741824 = true := Nat.ble_eq_true_of_le (by
          obtain ⟨q1, q2, q3, q4⟩ := s4
          rw [hn1] at q4; omega)
        have hpre : preV (cellsA sl) (m + 1) (rs.length + 1) (stoV nv mv L U (blurL (objsP (o :: rs))) (rs.length + 1) false false) = true := by
          unfold preV
          rw [hn1] at p3
          rw [p1, p2, ofCells_cells, p3, ask_under nv mv L U (o :: rs), sto_plain nv mv L U (o :: rs)]; rfl
        rw [hpl, hpre, h30, htk] at tree
        have tree : ifK ((cellsA sl).all AV.single) (ifK (chk1 L U) (byB (full L U (0 + (m + 1))) (some (errV 16, some (sto1 nv mv L U 1 (rs.length + 1), 66, true), some (objsP (o :: rs), 115, true), none, some (cellsA sl, 29, true)))
          (ifK (chk2 U) (ifK (Nat.ble (rs.length + 1 + 1) 1073741824) (optK (fun old => some (objV (lastN rs.length), some (sto1 nv mv L (pay U (0 + (m + 1))) 9 (rs.length + 1 + 1), 66, true), some (objsP (o :: rs), 115, stale (objsP (o :: rs)).length (rs.length + 1)),
          some (old ++ (.int .i64 5 :: .sl 5 0 (0 + (m + 1)) 2 false :: rest8), 115, fresh1 (objsP (o :: rs)).length (rs.length + 1)), some (cellsA sl, 29, true))) (cutN ((rs.length + 1) * 10) 0 (objsP (o :: rs)))))))) = runBig Tryz.prog 1 9 5 [(66, sto1 nv mv L U 1 (rs.length + 1)), (115, objsP (o :: rs))] (.lst (cellsA sl) (m + 1) tt false) := tree.symm
        rw [cellsA_single, chk1_t, chk2_t, h0m, hble, cut_objs (o :: rs) (rs.length + 1) rfl] at tree
        cases hfu : full L U (m + 1) with
        | true =>
          rw [hfu] at tree
          obtain ⟨s', r1, r2, r3, _⟩ := run tree.symm
          exact ⟨rfl, s', r1, ends_same1 r2 r3⟩
        | false =>
          rw [hfu] at tree
          have hi : lastN rs.length = Int.ofNat (rs.length + 1) := by
            obtain ⟨q1, q2, q3, q4⟩ := s4
            rw [hn1] at q4
            unfold lastN
            rw [wrap64 (by simp only [Int.ofNat_eq_natCast]; omega) (by simp only [Int.ofNat_eq_natCast]; omega)]
            simp only [Int.ofNat_eq_natCast]; omega
          have tree2 : runBig Tryz.prog 1 9 5 [(66, sto1 nv mv L U 1 (rs.length + 1)), (115, objsP (o :: rs))] (.lst (cellsA sl) (m + 1) tt false) = some (objV (lastN rs.length), some (sto1 nv mv L (pay U (m + 1)) 9 (rs.length + 1 + 1), 66, true), some (objsP (o :: rs), 115, stale (objsP (o :: rs)).length (rs.length + 1)),
            some (objsP (o :: rs) ++ (.int .i64 5 :: .sl 5 0 (m + 1) 2 false :: rest8), 115, fresh1 (objsP (o :: rs)).length (rs.length + 1)), some (cellsA sl, 29, true)) := tree.symm
          rw [hi, show fresh1 (objsP (o :: rs)).length (rs.length + 1) = true from beq_self' _] at tree2
          obtain ⟨s', r1, r2, _, r3, r4⟩ := run tree2
          rw [hn1]
          exact ⟨rfl, s', r1, .inr ⟨L, U, pay U (m + 1), 9, 5, 5, sl, objsP (o :: rs), _, s2, rfl, fit_more s4 (by omega) hfu, by rw [hn1]; exact r2, r3, .inr ⟨_, rfl, rfl⟩, .inl ⟨hne, by rw [p6], r4⟩⟩⟩
  · cases hF) ends
end Go.Am.Sto
end
section
namespace Go.Am.Txt
open Go Go.Am Go.Proofs Go.Am.Sto
def gV (d : Hid) (t n e : Int) : Option R := some (.tup [.agg [.int .i64 t, .int .i64 n], .int .i64 e], d)
section
variable (sn sc sb : Bool → List AV → Nat → Bool) (sv : Bool → List AV → Nat → Int)
def F37 : List AV → Option AV
  | [.int .i64 z] => some (.agg [.int .i64 4, .int .i64 z])
  | _ => none
def X18 : Known := (((Known.none.add 35 (zX (F35n sn))).add 36 (zX (F36n sc sb sv))).add 38 (methX F38u)).add 37 (pureX F37)
def Y18 {β : Type} : KnownK β := (((KnownK.none.add 35 (zK (F35n sn))).add 36 (zK (F36n sc sb sv))).add 38 (methK F38u)).add 37 (pureK F37)
def D18 : Live := fun i => match i with | 0 => .pack [0, 4, 9, 43, 44, 45] | _ => .all
def b18 (M : Nat) (P : Program) (d : Hid) (g : Bool) (r : List AV) (k : Nat) (t nl : Bool) : Option R := bodyY P (GU H0) (X18 sn sc sb sv) (Y18 sn sc sb sv) 90 8 D18 Res.meth? M P.funcs[18]? [.hptr 0, .agg [.bool g, .lst r k t nl]] (St.one d)
def L18 (M : Nat) (P : Program) (rounds : Nat) : T → St → Option R := runLoop P (GU H0) (X18 sn sc sb sv) (Y18 sn sc sb sv) 90 8 D18 Res.meth? M 18 (.pack [0, 4, 9, 43, 44, 45]) 5 rounds
def rowInt (r ty pos ext : Nat) (vals : List AV) : AObj := .row { vals := vals, root := r, pos := pos, ep := 0, fep := 0, ext := ext, solo := true, ty := ty }
def trInt (d : Hid) (g : Bool) (r : List AV) (k : Nat) (t nl : Bool) (s : Int) : Tr AObj := ((((Tr.nil.set 0 (.hid d)).set 1 (rowInt 1 47 0 2 [.bool g, .lst r k t nl])).set 2 (rowInt 2 29 0 2 [.int .i64 0, .int .i64 0])).set 3 (rowInt 3 29 0 2 [.int .i64 4, .int .i64 s])).set 4 (rowInt 4 29 0 2 [.int .i64 4, .int .i64 s])
def sInt0 (d : Hid) (g : Bool) (r : List AV) (k : Nat) (t nl : Bool) (s : Int) : St := ⟨5, trInt d g r k t nl s⟩
def sInt (d : Hid) (g : Bool) (r : List AV) (k : Nat) (t nl : Bool) (s : Int) (C : List AV) : St := ⟨6, (trInt d g r k t nl s).set 5 (rowInt 5 29 1 (1 + C.length) C)⟩
def tInt (r : List AV) (k : Nat) (t nl : Bool) (sl : AV) (i : Int) : T := tOf 61 [(0, .hptr 0), (4, .ptr 2 0), (9, sl), (43, .lst r k t nl), (44, .int .i64 (.ofNat k)), (45, .int .i64 i)]
def intT (d : Hid) (g : Bool) (r : List AV) (k : Nat) (t nl : Bool) (big : Option R) : Option R := ifK (AV.plain (.agg [.bool g, .lst r k t nl])) (ifK (sn g r k) (ifK (AV.plain (.agg [.bool g, .lst r k t nl])) (ifK (sc g r k)
  (byB (sb g r k) (byB (!leI (sv g r k) (-1000000000000000000)) (byB (!leI 1000000000000000000 (sv g r k)) (gV d 4 (sv g r k) 0) big) big) big))))
variable (M : Nat) (d : Hid) (r : List AV) (k : Nat) (t nl : Bool)
theorem start18f : b18 sn sc sb sv M Tryz.prog d false r k t nl = intT sn sc sb sv d false r k t nl (L18 sn sc sb sv M Tryz.prog M (tInt r k t nl (.sl 4 0 1 2 true) 0) (sInt0 d false r k t nl 0)) := by kernel_rfl
theorem start18t : b18 sn sc sb sv M Tryz.prog d true r k t nl = intT sn sc sb sv d true r k t nl (L18 sn sc sb sv M Tryz.prog M (tInt r k t nl (.sl 4 0 1 2 true) 0) (sInt0 d true r k t nl 1)) := by kernel_rfl
abbrev w64v (z : Int) : List AV := [.int .i64 4, .int .i64 (IntKind.i64.wrap z)]
theorem step18a (N : Nat) (g : Bool) (s : Int) : L18 sn sc sb sv M Tryz.prog (N + 1) (tInt r k t nl (.sl 4 0 1 2 true) 0) (sInt0 d g r k t nl s) =
    byB (!leI (.ofNat k) 0) (ifK (Nat.blt 0 k && nonNil r) (opt1 .u32 (fun z => ifK (AV.under 5 (.lst r k t nl)) (ifK (lowOkB (sInt0 d g r k t nl s) 5 5)
      (L18 sn sc sb sv M Tryz.prog N (tInt r k t nl (.sl 5 0 2 2 false) 1) (sInt d g r k t nl s ([.int .i64 4, .int .i64 s] ++ w64v z))))) (r[0]?)))
      (some (getV (mkOf d 5 [(4, s)]).1, (mkOf d 5 [(4, s)]).2)) := by kernel_rfl
theorem step18b (N : Nat) (g : Bool) (s : Int) (i len : Nat) (C : List AV) : L18 sn sc sb sv M Tryz.prog (N + 1) (tInt r k t nl (.sl 5 0 (len + 1) 2 false) (.ofNat i)) (sInt d g r k t nl s C) =
    byB (!leI (.ofNat k) (.ofNat i)) (ifK (Nat.blt i k && nonNil r) (opt1 .u32 (fun z => ifK (Nat.ble (len + 1 + 1) 1073741824) (optK (fun old =>
        ifK ((bif Nat.ble (1 + C.length) (1 + 0 + (len + 1) * 2) then 0 else 0 + 1).beq (bif Nat.ble (1 + C.length) (1 + 0 + (len + 1) * 2) then 0 else 0 + 1)) (optK (fun cs => ifK (nonNil cs && AV.plains cs) (ifK (AV.under 5 (.lst r k t nl)) (ifK (lowOkB (sInt d g r k t nl s C) 5 5)
        (L18 sn sc sb sv M Tryz.prog N (tInt r k t nl (.sl 5 0 (len + 1 + 1) 2 false) (IntKind.i64.wrap (.ofNat i + 1))) (sInt d g r k t nl s cs))))) (cutN ((len + 1 + 1) * 2) 0 (old ++ w64v z))))
      (cutN ((len + 1) * 2) 0 C))) (r[i * 1]?)))
      (optK (fun cs => ifK (Nat.blt 0 (len + 1) && AV.plains cs) (ifK (isCells cs (len + 1) && (Nat.ble (len + 1) 4500 && (okAll d.rows.length (ofCells cs) && true))) (some (getV (mkOf d 5 (ofCells cs)).1, (mkOf d 5 (ofCells cs)).2)))) (cutN ((len + 1) * 2) 0 C)) := by kernel_rfl
end
end Go.Am.Txt
end
section
namespace Go.Am.Txt
open Go Go.Am Go.Proofs Go.Am.Sto
def bigN (s : Int) (ls : List Nat) : List V2 := (4, s) :: ls.map fun x => (4, Int.ofNat x)
theorem bigN_len (s : Int) (ls : List Nat) : (bigN s ls).length = ls.length + 1 := by unfold bigN; rw [List.length_cons, List.length_map]
theorem bigN_ok (n : Nat) (s : Int) (ls : List Nat) : okAll n (bigN s ls) = true := by
  show (true && (ls.map fun x => ((4 : Int), Int.ofNat x)).all fun p => sndB n p.1 p.2) = true
  rw [Bool.true_and, List.all_map, List.all_eq_true]
  intro a _
  rfl
theorem bigN_take (s : Int) {ls : List Nat} {i : Nat} (h : i < ls.length) : bigN s (ls.take i) ++ [(4, .ofNat ls[i])] = bigN s (ls.take (i + 1)) := by
  unfold bigN
  rw [List.take_add_one, List.getElem?_eq_getElem h, List.map_append]; rfl
def madeBig (d : Hid) (sl : List V2) : Option R := some (getV (mkOf d 5 sl).1, (mkOf d 5 sl).2)
section
variable (sn sc sb : Bool → List AV → Nat → Bool) (sv : Bool → List AV → Nat → Int)
theorem low_int (d : Hid) (g : Bool) (ls : List Nat) (k : Nat) (t nl : Bool) (s : Int) (C : List AV) : lowOkB (sInt d g (u32N ls) k t nl s C) 5 5 = true := by
  show (true && (true && (true && ((true && (AV.unders 5 (u32N ls) && true)) && (true && true))))) = true
  rw [u32N_unders 5 ls]; rfl
theorem low_int0 (d : Hid) (g : Bool) (ls : List Nat) (k : Nat) (t nl : Bool) (s : Int) : lowOkB (sInt0 d g (u32N ls) k t nl s) 5 5 = true := by
  show (true && (true && (true && ((true && (AV.unders 5 (u32N ls) && true)) && (true && true))))) = true
  rw [u32N_unders 5 ls]; rfl
theorem u32N_ne' {ls : List Nat} {i : Nat} (h : i < ls.length) : nonNil (u32N ls) = true := by cases ls with | nil => cases h | cons => rfl
theorem w64v_ok {x : Nat} (h : x < LIM) : w64v (.ofNat x) = [.int .i64 4, .int .i64 (.ofNat x)] := by
  unfold w64v
  unfold LIM at h
  rw [wI (by omega)]
theorem main18 (M : Nat) (d : Hid) (g : Bool) {ls : List Nat} (t nl : Bool) (s : Int) (hlt : ∀ x ∈ ls, x < LIM) (h65 : ls.length ≤ 65) : ∀ (rem i : Nat) (N : Nat), i + rem = ls.length → rem < N →
    L18 sn sc sb sv M Tryz.prog N (tInt (u32N ls) ls.length t nl (.sl 5 0 (i + 1) 2 false) (.ofNat i)) (sInt d g (u32N ls) ls.length t nl s (cellsA (bigN s (ls.take i)))) = madeBig d (bigN s ls)
  | 0, i, N, h1, h3 => by
    obtain ⟨N, rfl⟩ : ∃ K, N = K + 1 := ⟨N - 1, by omega⟩
    have h2 : (bigN s (ls.take i)).length = i + 1 := by rw [bigN_len, List.length_take]; omega
    have hti : ls.take i = ls := List.take_of_length_le (by omega)
    rw [step18b, leI_t (show Int.ofNat ls.length ≤ Int.ofNat i by simp only [Int.ofNat_eq_natCast]; omega)]
    show optK _ _ = _
    rw [cellsA_cut (bigN s (ls.take i)) (i + 1) h2]
    show ifK (Nat.blt 0 (i + 1) && AV.plains (cellsA (bigN s (ls.take i)))) _ = _
    rw [cellsA_plains]
    show ifK (isCells (cellsA (bigN s (ls.take i))) (i + 1) && _) _ = _
    rw [ofCells_cells, ← h2, isCells_cells, Nat.ble_eq_true_of_le (show (bigN s (ls.take i)).length ≤ 4500 by omega), hti, bigN_ok _ s ls]; rfl
  | rem + 1, i, N, h1, h3 => by
    obtain ⟨N, rfl⟩ : ∃ K, N = K + 1 := ⟨N - 1, by omega⟩
    have h2 : (bigN s (ls.take i)).length = i + 1 := by rw [bigN_len, List.length_take]; omega
    have hi : i < ls.length := by omega
    have e1 : (u32N ls)[i * 1]? = some (.int .u32 (.ofNat ls[i])) := by rw [u32N_get, List.getElem?_eq_getElem hi]; rfl
    have hb : Nat.blt i ls.length = true := Nat.ble_eq_true_of_le hi
    rw [step18b, leI_f (show Int.ofNat i < Int.ofNat ls.length by simp only [Int.ofNat_eq_natCast]; omega), hb, u32N_ne' hi, e1, Nat.ble_eq_true_of_le (show i + 1 + 1 ≤ 1073741824 by omega), cellsA_cut (bigN s (ls.take i)) (i + 1) h2]
    show ifK _ _ = _
    rw [Nat.beq_refl]
    show optK _ (cutN ((i + 1 + 1) * 2) 0 (cellsA (bigN s (ls.take i)) ++ w64v (.ofNat ls[i]))) = _
    have hc : cellsA (bigN s (ls.take i)) ++ w64v (.ofNat ls[i]) = cellsA (bigN s (ls.take (i + 1))) := by
      rw [w64v_ok (hlt _ (List.getElem_mem hi))]
      exact (cellsA_append (bigN s (ls.take i)) [(4, .ofNat ls[i])]).symm.trans (congrArg cellsA (bigN_take s hi))
    have hl : (bigN s (ls.take (i + 1))).length = i + 1 + 1 := by rw [bigN_len, List.length_take]; omega
    rw [hc, cellsA_cut _ (i + 1 + 1) hl]
    show ifK (nonNil _ && AV.plains _) _ = _
    rw [cellsA_nonNil (by unfold bigN; simp), cellsA_plains]
    show ifK (AV.under 5 (.lst (u32N ls) ls.length t nl)) _ = _
    rw [show AV.under 5 (.lst (u32N ls) ls.length t nl) = true from u32N_unders 5 ls]
    show ifK (lowOkB _ 5 5) _ = _
    rw [low_int d g ls ls.length t nl s _, show IntKind.i64.wrap (Int.ofNat i + 1) = .ofNat (i + 1) from wI (n := i + 1) (by omega)]
    exact main18 M d g t nl s hlt h65 rem (i + 1) N (by omega) (by omega)
theorem loop18 (M : Nat) (d : Hid) (g : Bool) {ls : List Nat} (t nl : Bool) (s : Int) (hlt : ∀ x ∈ ls, x < LIM) (h65 : ls.length ≤ 65) (N : Nat) (hN : ls.length < N) :
    L18 sn sc sb sv M Tryz.prog N (tInt (u32N ls) ls.length t nl (.sl 4 0 1 2 true) 0) (sInt0 d g (u32N ls) ls.length t nl s) = madeBig d (bigN s ls) := by
  obtain ⟨N, rfl⟩ : ∃ K, N = K + 1 := ⟨N - 1, by omega⟩
  rw [step18a]
  by_cases h0 : ls.length = 0
  · have : ls = [] := List.eq_nil_of_length_eq_zero h0
    subst this; rfl
  · have hi : 0 < ls.length := by omega
    have e1 : (u32N ls)[0]? = some (.int .u32 (.ofNat ls[0])) := by
      have := u32N_get ls 0
      rw [List.getElem?_eq_getElem hi] at this
      exact this
    have hb : Nat.blt 0 ls.length = true := Nat.ble_eq_true_of_le hi
    rw [leI_f (show (0 : Int) < Int.ofNat ls.length by simp only [Int.ofNat_eq_natCast]; omega), hb, u32N_ne' hi, e1]
    show ifK (AV.under 5 (.lst (u32N ls) ls.length t nl)) _ = _
    rw [show AV.under 5 (.lst (u32N ls) ls.length t nl) = true from u32N_unders 5 ls]
    show ifK (lowOkB _ 5 5) _ = _
    rw [low_int0 d g ls ls.length t nl s]
    have hc : ([.int .i64 4, .int .i64 s] ++ w64v (.ofNat ls[0]) : List AV) = cellsA (bigN s (ls.take 1)) := by
      have := bigN_take s hi
      rw [show (0 : Nat) + 1 = 1 from rfl] at this
      rw [← this, w64v_ok (hlt _ (List.getElem_mem hi))]; rfl
    rw [show (ifK true _ : Option R) = _ from rfl, hc]
    exact main18 sn sc sb sv M d g t nl s hlt h65 (ls.length - 1) 1 N (by omega) (by omega)
end
end Go.Am.Txt
end
section
namespace Go.Am.Txt
open Go Go.Am Go.Proofs Go.Am.Sto
theorem i37 (z : Int) : bodyK Tryz.prog G0 .none 3 3 noLive Res.val? 3 Tryz.prog.funcs[37]? [.int .i64 z] St.empty = some (.agg [.int .i64 4, .int .i64 z]) := by kernel_rfl
theorem k37 : OkF G0 37 (pureX F37) :=
  flat_known (D := noLive) (m := 3) (loops := 3) (n := 3) (F := F37) hm hn G0_plain (KnownOk.none _ _) fun ar x hx => by
    unfold F37 at hx
    split at hx
    · cases hx; exact ⟨rfl, rfl, i37 _⟩
    · cases hx
abbrev X18s : Known := X18 sndG sndG sb36 sv36
theorem kX18 : KnownOk Tryz.prog (GU H0) X18s := ((((KnownOk.none _ _).add k35u).add k36n).add (u0 k38u)).add (u0 k37)
theorem kY18 {β : Type} : KnownKOk X18s (Y18 sndG sndG sb36 sv36 : KnownK β) := addP (addK (addY (addY (KnownKOk.none _) 35 (zK_le _)) 36 (zK_le _)) 38 F38u) 37 F37
def smallN (g : Bool) (ls : List Nat) : Bool := sbN g ls && (!leI (svN g ls) (-1000000000000000000) && !leI 1000000000000000000 (svN g ls))
def intO (d : Hid) (g : Bool) (ls : List Nat) : (V2 × Int) × Hid := bif smallN g ls then (((4, svN g ls), 0), d) else mkOf d 5 (bigN (bif g then 1 else 0) ls)
def F18 (d : Hid) : List AV → Option (Bool × AV × Hid)
  | [.hptr 0, .agg [.bool g, .lst r k _ _]] => some (sndG g r k, getV (intO d g (limN r)).1, (intO d g (limN r)).2)
  | _ => none
theorem intT_eq (d : Hid) {g t nl : Bool} {r : List AV} {k : Nat} (h : sndG g r k = true) {big : Option R} (hb : big = madeBig d (bigN (bif g then 1 else 0) (limN r))) : intT sndG sndG sb36 sv36 d g r k t nl big = some (getV (intO d g (limN r)).1, (intO d g (limN r)).2) := by
  obtain ⟨e1, e2, e3⟩ := snd_is h
  have hp : AV.plain (.agg [.bool g, .lst r k t nl]) = true := by
    rw [e1]
    show (true && (AV.plains (u32N (limN r)) && true)) = true
    rw [u32N_plains]; rfl
  subst hb
  unfold intT
  rw [hp, h]
  show byB (sbN g (limN r)) (byB (!leI (svN g (limN r)) (-1000000000000000000)) (byB (!leI 1000000000000000000 (svN g (limN r))) (gV d 4 (svN g (limN r)) 0) _) _) _ = _
  unfold intO smallN
  cases sbN g (limN r) with
  | false => rfl
  | true =>
    show byB (!leI (svN g (limN r)) (-1000000000000000000)) _ _ = _
    cases (!leI (svN g (limN r)) (-1000000000000000000)) with
    | false => rfl
    | true =>
      show byB (!leI 1000000000000000000 (svN g (limN r))) _ _ = _
      cases (!leI 1000000000000000000 (svN g (limN r))) <;> rfl
theorem k18 : MethOk Tryz.prog (GU H0) 18 F18 := meth_known (D := D18) (m := 80) (loops := 90) (n := 8) hm hn (GU_plain H0) kX18 kY18 fun d ar x d' hF => by
  unfold F18 at hF
  split at hF
  case h_2 => cases hF
  rename_i g r k t nl
  simp only [Option.some.injEq, Prod.mk.injEq] at hF
  obtain ⟨h, rfl, rfl⟩ := hF
  obtain ⟨e1, e2, e3⟩ := snd_is h
  have l18 : ∀ g s, L18 sndG sndG sb36 sv36 80 Tryz.prog 80 (tInt r k t nl (.sl 4 0 1 2 true) 0) (sInt0 d g r k t nl s) = madeBig d (bigN s (limN r)) := fun g s => by
    have := loop18 sndG sndG sb36 sv36 80 d g t nl s e3.lt (by have := e3.len; omega) 80 (by have := e3.len; omega)
    rw [← e1, ← e2] at this
    exact this
  cases g with
  | false => exact (start18f sndG sndG sb36 sv36 80 d r k t nl).trans (intT_eq d h (l18 false 0))
  | true => exact (start18t sndG sndG sb36 sv36 80 d r k t nl).trans (intT_eq d h (l18 true 1))
end Go.Am.Txt
end
section
namespace Go.Am.Txt
open Go Go.Am Go.Proofs Go.Am.Sto
def D41t : Live := fun i => match i with | 0 => .pack [0, 1, 7, 8] | _ => .all
def L41t (H : HT) (P : Program) (rounds : Nat) : T → St → Option AV := runLoop P (GU H) .none .none 5 8 D41t Res.freshV? 5000 41 (.pack [0, 1, 7, 8]) 0 rounds
def tC (l : AV) (f : Nat) (m : Nat) (i : Int) : T := tOf 19 [(0, l), (1, .fn (.func f) [] []), (7, .int .i64 (.ofNat m)), (8, .int .i64 i)]
def b41t (H : HT) (P : Program) (f : Nat) (cs : List AV) (m : Nat) (tt nl : Bool) : Option AV := bodyY P (GU H) .none .none 5 8 D41t Res.freshV? 5000 P.funcs[41]? [.lst cs m tt nl, .fn (.func f) [] []] St.empty
section
variable (H : HT) (cs : List AV) (m i N : Nat) (tt nl : Bool)
abbrev stepC (f : Nat) (P : Program) : Option AV := byB (!leI (.ofNat m) (.ofNat i)) (ifK (Nat.blt i m && nonNil cs) (opt2 (fun a _ => byB (!eqI a 5) (some (.int .i64 (.ofNat i))) (ifK (AV.under 0 (.lst cs m tt nl)) (L41t H P N (tC (.lst cs m tt nl) f m (IntKind.i64.wrap (.ofNat i + 1))) St.empty))) (cutN 2 (i * 2) cs)))
      (some (.int .i64 (-1)))
theorem start41c : b41t H Tryz.prog 145 cs m tt nl = L41t H Tryz.prog 5000 (tC (.lst cs m tt nl) 145 m 0) St.empty := by kernel_rfl
theorem start41d : b41t H Tryz.prog 100 cs m tt nl = L41t H Tryz.prog 5000 (tC (.lst cs m tt nl) 100 m 0) St.empty := by kernel_rfl
theorem step41c : L41t H Tryz.prog (N + 1) (tC (.lst cs m tt nl) 145 m (.ofNat i)) St.empty = stepC H cs m i N tt nl 145 Tryz.prog := by kernel_rfl
theorem step41d : L41t H Tryz.prog (N + 1) (tC (.lst cs m tt nl) 100 m (.ofNat i)) St.empty = stepC H cs m i N tt nl 100 Tryz.prog := by kernel_rfl
end
end Go.Am.Txt
end
section
namespace Go.Am.Txt
open Go Go.Am Go.Proofs Go.Am.Sto
def is1 (p : V2) : Bool := eqI p.1 5 && (leI 0 p.2 && okc p.2.toNat)
def isCh (l : List V2) : Bool := Nat.ble l.length 4096 && l.all is1
def chV (l : List Nat) : List V2 := l.map fun c => (5, .ofNat c)
def chOf (l : List V2) : List Nat := l.map fun p => p.2.toNat
theorem is1_eq {p : V2} (h : is1 p = true) : p = (5, .ofNat p.2.toNat) ∧ okc p.2.toNat = true := by
  unfold is1 at h
  rw [Bool.and_eq_true, Bool.and_eq_true] at h
  obtain ⟨h1, h2, h3⟩ := h
  rw [leI_iff, decide_eq_true_iff] at h2
  obtain ⟨a, b⟩ := p
  have ha : a = 5 := by
    cases a with
    | ofNat a => exact congrArg Int.ofNat (Nat.eq_of_beq_eq_true (show a.beq 5 = true from h1))
    | negSucc a => cases h1
  subst ha
  exact ⟨by rw [Int.ofNat_eq_natCast, Int.toNat_of_nonneg h2], h3⟩
theorem isCh_eq {l : List V2} (h : isCh l = true) : l = chV (chOf l) ∧ (∀ c ∈ chOf l, okc c = true) ∧ (chOf l).length ≤ 4096 := by
  unfold isCh at h
  rw [Bool.and_eq_true, List.all_eq_true] at h
  refine ⟨?_, fun c hc => ?_, by unfold chOf; rw [List.length_map]; exact Nat.le_of_ble_eq_true h.1⟩
  · unfold chV chOf
    rw [List.map_map]
    have : ∀ p ∈ l, ((fun c => ((5 : Int), Int.ofNat c)) ∘ fun p : V2 => p.2.toNat) p = p := fun p hp => (is1_eq (h.2 p hp)).1.symm
    rw [List.map_congr_left this, List.map_id']
  · unfold chOf at hc
    obtain ⟨p, hp, rfl⟩ := List.mem_map.1 hc
    exact (is1_eq (h.2 p hp)).2
theorem chOf_chV (l : List Nat) : chOf (chV l) = l := by
  unfold chV chOf
  rw [List.map_map]
  have : ∀ c ∈ l, ((fun p : V2 => p.2.toNat) ∘ fun c => ((5 : Int), Int.ofNat c)) c = c := fun c _ => rfl
  rw [List.map_congr_left this, List.map_id']
theorem chV_ch {l : List Nat} (h : ∀ c ∈ l, okc c = true) (hl : l.length ≤ 4096) : isCh (chV l) = true := by
  unfold isCh
  rw [Nat.ble_eq_true_of_le (by unfold chV; rw [List.length_map]; exact hl), Bool.true_and, List.all_eq_true]
  intro p hp
  unfold chV at hp
  obtain ⟨c, hc, rfl⟩ := List.mem_map.1 hp
  unfold is1
  show (true && (leI 0 (Int.ofNat c) && okc c)) = true
  rw [leI_t (show (0 : Int) ≤ Int.ofNat c by simp only [Int.ofNat_eq_natCast]; omega), h c hc]; rfl
def all5 (l : List V2) : Bool := l.all fun p => eqI p.1 5
theorem ch_all5 {l : List V2} (h : isCh l = true) : all5 l = true := by
  unfold isCh at h
  rw [Bool.and_eq_true, List.all_eq_true] at h
  unfold all5
  rw [List.all_eq_true]
  intro p hp
  have := h.2 p hp
  unfold is1 at this
  rw [Bool.and_eq_true] at this
  exact this.1
theorem main41c (H : HT) (f : Nat) (l : List V2) (tt nl : Bool) (hf : ∀ (N i : Nat), L41t H Tryz.prog (N + 1) (tC (.lst (cellsA l) l.length tt nl) f l.length (.ofNat i)) St.empty = stepC H (cellsA l) l.length i N tt nl f Tryz.prog) (h : all5 l = true) : ∀ (N i : Nat), l.length < i + N → i ≤ l.length → l.length ≤ 100000 →
    L41t H Tryz.prog N (tC (.lst (cellsA l) l.length tt nl) f l.length (.ofNat i)) St.empty = some (.int .i64 (-1))
  | 0, i, h1, h2, _ => absurd h1 (by omega)
  | N + 1, i, h1, h2, h3 => by
    rw [hf]
    unfold stepC
    rw [leN]
    rcases Nat.lt_or_ge i l.length with hlt | hge
    · obtain ⟨c1, c2⟩ := cells_cut l i _ (List.getElem?_eq_getElem hlt)
      have hb : Nat.blt i l.length = true := Nat.ble_eq_true_of_le hlt
      have hb2 : Nat.ble l.length i = false := by
        cases hx : Nat.ble l.length i with
        | false => rfl
        | true => have := Nat.le_of_ble_eq_true hx; omega
      have hs : eqI (l[i]).1 5 = true := List.all_eq_true.1 h _ (List.getElem_mem hlt)
      have hi : IntKind.i64.wrap (Int.ofNat i + 1) = Int.ofNat (i + 1) := by
        rw [wrap64 (by simp only [Int.ofNat_eq_natCast]; omega) (by simp only [Int.ofNat_eq_natCast]; omega)]
        rfl
      rw [hb2, c1, c2, hb]
      show byB (!eqI (l[i]).1 5) _ (ifK (AV.unders 0 (cellsA l)) (L41t H Tryz.prog N (tC _ _ _ (IntKind.i64.wrap (Int.ofNat i + 1))) _)) = _
      rw [hs, cellsA_unders, hi]
      exact main41c H f l tt nl hf h N (i + 1) (by omega) (by omega) h3
    · have : i = l.length := by omega
      subst this
      rw [Nat.ble_eq_true_of_le (Nat.le_refl _)]
      rfl
def F41c : List AV → Option (Bool × AV)
  | [.lst cs m _ _, .fn (.func 145) [] []] => some (isCells cs m && (Nat.ble m 4500 && all5 (ofCells cs)), .int .i64 (-1))
  | [.lst cs m _ _, .fn (.func 100) [] []] => some (isCells cs m && (Nat.ble m 4500 && all5 (ofCells cs)), .int .i64 (-1))
  | _ => none
theorem w41c (H : HT) : WOk Tryz.prog (GU H) 41 F41c := v_known (D := D41t) (m := 5000) (loops := 5) (n := 8) hm hn (GU_plain H) (KnownOk.none _ _) (KnownKOk.none _) fun ar x h => by
  unfold F41c at h
  split at h
  · rename_i cs m tt nl
    simp only [Option.some.injEq, Prod.mk.injEq, Bool.and_eq_true] at h
    obtain ⟨⟨h1, h2, h5⟩, rfl⟩ := h
    obtain ⟨h3, h4⟩ := isCells_eq h1
    have hm9 : m ≤ 4500 := Nat.le_of_ble_eq_true h2
    refine (start41c H cs m tt nl).trans ?_
    have := main41c H 145 (ofCells cs) tt nl (fun N i => step41c H _ _ i N tt nl) h5 5000 0 (by omega) (by omega) (by omega)
    rw [← h3, h4] at this
    exact this
  · rename_i cs m tt nl
    simp only [Option.some.injEq, Prod.mk.injEq, Bool.and_eq_true] at h
    obtain ⟨⟨h1, h2, h5⟩, rfl⟩ := h
    obtain ⟨h3, h4⟩ := isCells_eq h1
    have hm9 : m ≤ 4500 := Nat.le_of_ble_eq_true h2
    refine (start41d H cs m tt nl).trans ?_
    have := main41c H 100 (ofCells cs) tt nl (fun N i => step41d H _ _ i N tt nl) h5 5000 0 (by omega) (by omega) (by omega)
    rw [← h3, h4] at this
    exact this
  · cases h
end Go.Am.Txt
end
section
namespace Go.Am.Txt
open Go Go.Am Go.Proofs Go.Am.Sto
def okM (d : Hid) (l : List V2) : Bool := l.all fun p => sndM d.names.length d.rows.length p.1 p.2
theorem main41m (d : Hid) (l : List V2) (tt nl : Bool) (h : okM d l = true) : ∀ (N i : Nat), l.length < i + N → i ≤ l.length → l.length ≤ 100000 → L41 Tryz.prog N (tI (.lst (cellsA l) l.length tt nl) l.length (.ofNat i)) (St.one d) = some (.int .i64 (-1), d)
  | 0, i, h1, h2, _ => absurd h1 (by omega)
  | N + 1, i, h1, h2, h3 => by
    rw [step41, leN]
    rcases Nat.lt_or_ge i l.length with hlt | hge
    · obtain ⟨c1, c2⟩ := cells_cut l i _ (List.getElem?_eq_getElem hlt)
      have hb : Nat.blt i l.length = true := Nat.ble_eq_true_of_le hlt
      have hb2 : Nat.ble l.length i = false := by
        cases hx : Nat.ble l.length i with
        | false => rfl
        | true => have := Nat.le_of_ble_eq_true hx; omega
      have hs : sndM d.names.length d.rows.length (l[i]).1 (l[i]).2 = true := List.all_eq_true.1 h _ (List.getElem_mem hlt)
      have hi : IntKind.i64.wrap (Int.ofNat i + 1) = Int.ofNat (i + 1) := by
        rw [wrap64 (by simp only [Int.ofNat_eq_natCast]; omega) (by simp only [Int.ofNat_eq_natCast]; omega)]
        rfl
      rw [hb2, c1, c2, hb]
      show byB (sndM d.names.length d.rows.length (l[i]).1 (l[i]).2) (ifK (AV.unders 1 (cellsA l)) (L41 Tryz.prog N (tI _ _ (IntKind.i64.wrap (Int.ofNat i + 1))) _)) _ = _
      rw [hs, cellsA_unders, hi]
      exact main41m d l tt nl h N (i + 1) (by omega) (by omega) h3
    · have : i = l.length := by omega
      subst this
      rw [Nat.ble_eq_true_of_le (Nat.le_refl _)]
      rfl
def F41m (d : Hid) : List AV → Option (Bool × AV × Hid)
  | [.lst cs m _ _, .fn (.func 24) [] [.ptrL [.hptr 0] 0]] => some (isCells cs m && (Nat.ble m 4500 && okM d (ofCells cs)), .int .i64 (-1), d)
  | _ => none
theorem k41m : MethOk Tryz.prog G0 41 F41m := meth_known (D := D41) (m := 5000) (loops := 5) (n := 8) hm hn G0_plain kX1 kY1 fun d ar x d' hF => by
  unfold F41m at hF
  split at hF
  · rename_i cs m tt nl
    simp only [Option.some.injEq, Prod.mk.injEq, Bool.and_eq_true] at hF
    obtain ⟨⟨h1, h2, h5⟩, rfl, rfl⟩ := hF
    obtain ⟨h3, h4⟩ := isCells_eq h1
    have hm9 : m ≤ 4500 := Nat.le_of_ble_eq_true h2
    rw [start41]
    have := main41m d (ofCells cs) tt nl h5 5000 0 (by omega) (by omega) (by omega)
    rw [← h3, h4] at this
    exact this
  · cases hF
def is24 : List AV → Bool
  | [_, .fn (.func 24) _ _] => true
  | _ => false
end Go.Am.Txt
end
section
namespace Go.Am.Txt
open Go Go.Am Go.Proofs Go.Am.Sto
abbrev c1A (a b : Int) : List AV := [.int .i64 a, .int .i64 b]
abbrev c2A (a b c e : Int) : List AV := [.int .i64 a, .int .i64 b, .int .i64 c, .int .i64 e]
def strK {β : Type} (d : Hid) (a b : Int) (bad k : Option β) : Option β := byB (!eqI (kindOf d.rows a b) 4) bad (ifK (Nat.ble (slotsO d a b).length 4500 && true) (ifK (AV.plains [lstA (slotsO d a b), .fn (.func 145) [] []])
  (ifK (isCells (cellsA (slotsO d a b)) (slotsO d a b).length && (Nat.ble (slotsO d a b).length 4500 && all5 (ofCells (cellsA (slotsO d a b))))) (byB (!leI (.ofNat (slotsO d a b).length) 4096) bad k))))
def strO (d : Hid) (a b : Int) : Bool := eqI (kindOf d.rows a b) 4 && isCh (slotsO d a b)
theorem lstA_plain (l : List V2) : AV.plain (lstA l) = true := cellsA_plains l
theorem strK_ok {β : Type} {d : Hid} {a b : Int} (h : strO d a b = true) (bad k : Option β) : strK d a b bad k = k := by
  unfold strO at h
  rw [Bool.and_eq_true] at h
  obtain ⟨h1, h2⟩ := h
  obtain ⟨q1, q2, q3⟩ := isCh_eq h2
  have hl : (slotsO d a b).length ≤ 4096 := by
    unfold chOf at q3
    rwa [List.length_map] at q3
  unfold strK
  rw [h1, Nat.ble_eq_true_of_le (show (slotsO d a b).length ≤ 4500 by omega), isCells_cells, ofCells_cells, ch_all5 h2, leI_t (show Int.ofNat (slotsO d a b).length ≤ 4096 by simp only [Int.ofNat_eq_natCast]; omega)]
  show ifK (AV.plain (lstA (slotsO d a b)) && true) _ = _
  rw [lstA_plain]; rfl
end Go.Am.Txt
end
section
namespace Go.Am.Sto
open Go Go.Am Go.Proofs
def runStr (P : Program) (j r q : Nat) (l : List (TypeId × List AV)) (slots : AV) : Option (AV × RowI × RowI × RowI × RowI) :=
  bodyY P G0 XS2 YS2 5 8 noLive (mkR j r q) 5 P.funcs[38]? [.ptr 0 0, .int .i64 4, slots] (St.rows l)
section
variable (nv mv : Value) (L U : Int) (tt : Bool) (m : Nat) (cs : List AV) (o : Ob × Value) (rs : List (Ob × Value))
theorem str00 : runStr Tryz.prog 0 6 4 [(66, sto0 nv mv L U)] (.lst [] 0 tt true) =
    ifK (chk1 L U) (byB (full L U 0) (some (errV 16, some (sto0 nv mv L U, 66, true), some (sto0 nv mv L U, 66, true), none, some (zero2, 29, true)))
      (ifK (chk2 U) (some (objV 0, some (sto1 nv mv L (pay U 0) 6 1, 66, true), some (sto1 nv mv L (pay U 0) 6 1, 66, true), some (.int .i64 4 :: mt :: rest8, 115, true), some (new2 0, 29, true))))) := by kernel_rfl
theorem str01 : runStr Tryz.prog 0 8 4 [(66, sto0 nv mv L U)] (.lst cs (m + 1) tt false) =
    ifK (AV.plain (.lst cs (m + 1) tt false)) (ifK (preV cs (m + 1) 0 (stoV nv mv L U [] 0 true true)) (ifK (Nat.ble (0 + (m + 1)) 1073741824) (optK (fun new => ifK (new.all AV.single)
      (ifK (chk1 L U) (byB (full L U (0 + (m + 1))) (some (errV 16, some (sto0 nv mv L U, 66, true), some (sto0 nv mv L U, 66, true), none, some (new, 29, true)))
        (ifK (chk2 U) (some (objV 0, some (sto1 nv mv L (pay U (0 + (m + 1))) 8 1, 66, true), some (sto1 nv mv L (pay U (0 + (m + 1))) 8 1, 66, true), some (.int .i64 4 :: .sl 4 0 (0 + (m + 1)) 2 false :: rest8, 115, true), some (new, 29, true))))))) (takeN ((m + 1) * 2) cs)))) := by kernel_rfl
theorem str10 : runStr Tryz.prog 1 7 5 [(66, sto1 nv mv L U 1 (rs.length + 1)), (115, objsP (o :: rs))] (.lst [] 0 tt true) =
    ifK (preV [] 0 (rs.length + 1) (stoV nv mv L U (blurL (objsP (o :: rs))) (rs.length + 1) false false)) (ifK (chk1 L U) (byB (full L U 0) (some (errV 16, some (sto1 nv mv L U 1 (rs.length + 1), 66, true), some (objsP (o :: rs), 115, true), none, some (zero2, 29, true)))
      (ifK (chk2 U) (ifK (Nat.ble (rs.length + 1 + 1) 1073741824) (optK (fun old => some (objV (lastN rs.length), some (sto1 nv mv L (pay U 0) 7 (rs.length + 1 + 1), 66, true), some (objsP (o :: rs), 115, stale (objsP (o :: rs)).length (rs.length + 1)),
        some (old ++ (.int .i64 4 :: mt :: rest8), 115, fresh1 (objsP (o :: rs)).length (rs.length + 1)), some (new2 (lastN rs.length), 29, true))) (cutN ((rs.length + 1) * 10) 0 (objsP (o :: rs)))))))) := by kernel_rfl
theorem str11 : runStr Tryz.prog 1 9 5 [(66, sto1 nv mv L U 1 (rs.length + 1)), (115, objsP (o :: rs))] (.lst cs (m + 1) tt false) =
    ifK (AV.plain (.lst cs (m + 1) tt false)) (ifK (preV cs (m + 1) (rs.length + 1) (stoV nv mv L U (blurL (objsP (o :: rs))) (rs.length + 1) false false)) (ifK (Nat.ble (0 + (m + 1)) 1073741824) (optK (fun new => ifK (new.all AV.single)
      (ifK (chk1 L U) (byB (full L U (0 + (m + 1))) (some (errV 16, some (sto1 nv mv L U 1 (rs.length + 1), 66, true), some (objsP (o :: rs), 115, true), none, some (new, 29, true)))
        (ifK (chk2 U) (ifK (Nat.ble (rs.length + 1 + 1) 1073741824) (optK (fun old => some (objV (lastN rs.length), some (sto1 nv mv L (pay U (0 + (m + 1))) 9 (rs.length + 1 + 1), 66, true), some (objsP (o :: rs), 115, stale (objsP (o :: rs)).length (rs.length + 1)),
          some (old ++ (.int .i64 4 :: .sl 5 0 (0 + (m + 1)) 2 false :: rest8), 115, fresh1 (objsP (o :: rs)).length (rs.length + 1)), some (new, 29, true))) (cutN ((rs.length + 1) * 10) 0 (objsP (o :: rs))))))))) (takeN ((m + 1) * 2) cs)))) := by kernel_rfl
end
end Go.Am.Sto
end
