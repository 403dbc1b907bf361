import Derived.Test.YtlibahklbbachaaGreatDoorTx23
import Derived.Test.YtlibahklbbachaaGreatDoorTx16
set_option autoImplicit false
set_option maxRecDepth 100000
set_option linter.unusedSimpArgs false
set_option linter.unusedVariables false
section
namespace Go.Am.Sto
open Go Go.Am Go.Proofs
def F38t (d : Hid) : List AV → Option (Bool × AV × Hid)
  | [.hptr 0, .int .i64 4, .lst cs m _ nl] => some (isCells cs m && (Nat.ble m 4500 && (okAll d.rows.length (ofCells cs) && (bif m.beq 0 then nl else !nl))), getV (mkOf d 4 (ofCells cs)).1, (mkOf d 4 (ofCells cs)).2)
  | _ => none
theorem k38t : MethOk Tryz.prog G0 38 F38t := pres_known (D := noLive) (m := 5) (loops := 5) (n := 8) (Sees := Sees) (Ends := Ends) hm hn G0_plain kXS2 sees (fun d b own w l ar x d' hS hF => by
  unfold F38t at hF
  split at hF
  · rename_i cs m tt nl
    obtain ⟨L, U, nv, mv, s1, s2, s3, s4, s5, s6⟩ := hS
    simp only [Option.some.injEq, Prod.mk.injEq, Bool.and_eq_true] at hF
    obtain ⟨⟨p1, p2, p3, p4⟩, rfl, rfl⟩ := hF
    obtain ⟨p5, p6⟩ := isCells_eq p1
    have hm9 : m ≤ 4500 := Nat.le_of_ble_eq_true p2
    generalize hsl : ofCells cs = sl at *
    subst p5
    have hmk : mkOf d 4 sl = byB (full L U m) (((0, 0), 16), d) (((7, .ofNat d.rows.length), 0), ⟨0, [L, pay U m], d.rows ++ [(4, sl)], d.names⟩) := by
      unfold mkOf; rw [s2]; simp only [p3, p6]
    rw [hmk]
    refine ⟨_, rfl, ?_⟩
    have hplain : AV.plains [.int .i64 4, .lst (cellsA sl) m tt nl] = true := by
      show (AV.plain (.int .i64 4) && (AV.plains (cellsA sl) && true)) = true
      rw [cellsA_plains]; rfl
    refine ⟨hplain, ?_⟩
    have run : ∀ {ll : List (TypeId × List AV)} {slots : AV} {j r q : Nat} {x a b c e}, runStr Tryz.prog j r q ll slots = some (x, a, b, c, e) → ∃ s', bodyD Tryz.prog G0 (callN Tryz.prog G0 XS2 5 8) noLive 5 Tryz.prog.funcs[38]? [.ptr 0 0, .int .i64 4, slots] (St.rows ll) = .ret x s' ∧ rowI s' 0 = a ∧ rowI s' j = b ∧ rowI s' r = c ∧ rowI s' q = e := fun h => of_mkR (bodyY_le kYS2 h)
    cases m with
    | zero =>
      have hs0 : sl = [] := List.eq_nil_of_length_eq_zero p6
      subst hs0
      simp only [Nat.beq, cond_true] at p4
      subst p4
      rcases s6 with ⟨h7, rfl⟩ | ⟨bo, base, o, rs, sb, m1, rfl, m3, m4, m5⟩
      · have hn0 : d.rows.length = 0 := by rw [h7]; rfl
        have tree := str00 nv mv L U tt
        rw [chk1_t, chk2_t] at tree
        cases hfu : full L U 0 with
        | true =>
          rw [hfu] at tree
          obtain ⟨s', r1, r2, _⟩ := run tree
          exact ⟨rfl, s', r1, ends_same0 r2⟩
        | false =>
          rw [hfu] at tree
          obtain ⟨s', r1, r2, _, r3, r4⟩ := run tree
          rw [hn0]
          exact ⟨rfl, s', r1, .inr ⟨L, U, pay U 0, 6, 4, 4, [], [], mt, s2, rfl, fit_more s4 (by omega) hfu, by rw [hn0]; exact r2, r3, .inl ⟨rfl, rfl⟩, .inr ⟨rfl, rfl⟩⟩⟩
      · have hn1 : d.rows.length = rs.length + 1 := by rw [← m1]; simp
        have tree := str10 nv mv L U tt o rs
        have hble : Nat.ble (rs.length + 1 + 1) 1073741824 = true := Nat.ble_eq_true_of_le (by
          obtain ⟨q1, q2, q3, q4⟩ := s4
          rw [hn1] at q4; omega)
        have hpre : preV [] 0 (rs.length + 1) (stoV nv mv L U (blurL (objsP (o :: rs))) (rs.length + 1) false false) = true := by
          unfold preV
          rw [ask_under nv mv L U (o :: rs), sto_plain nv mv L U (o :: rs)]; rfl
        rw [hpre, chk1_t, chk2_t, hble, cut_objs (o :: rs) (rs.length + 1) rfl] at tree
        cases hfu : full L U 0 with
        | true =>
          rw [hfu] at tree
          obtain ⟨s', r1, r2, r3, _⟩ := run tree
          exact ⟨rfl, s', r1, ends_same1 r2 r3⟩
        | false =>
          rw [hfu] at tree
          have hi : lastN rs.length = Int.ofNat (rs.length + 1) := by
            obtain ⟨q1, q2, q3, q4⟩ := s4
            rw [hn1] at q4
            unfold lastN
            rw [wrap64 (by simp only [Int.ofNat_eq_natCast]; omega) (by simp only [Int.ofNat_eq_natCast]; omega)]
            simp only [Int.ofNat_eq_natCast]; omega
          have tree2 : runStr Tryz.prog 1 7 5 [(66, sto1 nv mv L U 1 (rs.length + 1)), (115, objsP (o :: rs))] (.lst [] 0 tt true) = some (objV (lastN rs.length), some (sto1 nv mv L (pay U 0) 7 (rs.length + 1 + 1), 66, true), some (objsP (o :: rs), 115, stale (objsP (o :: rs)).length (rs.length + 1)),
            some (objsP (o :: rs) ++ (.int .i64 4 :: mt :: rest8), 115, fresh1 (objsP (o :: rs)).length (rs.length + 1)), some (new2 (lastN rs.length), 29, true)) := tree
          rw [hi, show fresh1 (objsP (o :: rs)).length (rs.length + 1) = true from beq_self' _] at tree2
          obtain ⟨s', r1, r2, _, r3, r4⟩ := run tree2
          rw [hn1]
          exact ⟨rfl, s', r1, .inr ⟨L, U, pay U 0, 7, 5, 4, [], objsP (o :: rs), mt, s2, rfl, fit_more s4 (by omega) hfu, by rw [hn1]; exact r2, r3, .inr ⟨_, rfl, rfl⟩, .inr ⟨rfl, rfl⟩⟩⟩
    | succ m =>
      have hne : sl ≠ [] := fun e => by rw [e] at p6; cases p6
      have hnl : nl = false := by simpa [Nat.beq] using p4
      subst hnl
      have hpl : AV.plain (.lst (cellsA sl) (m + 1) tt false) = true := by
        show AV.plains (cellsA sl) = true
        exact cellsA_plains sl
      have h30 : Nat.ble (0 + (m + 1)) 1073741824 = true := Nat.ble_eq_true_of_le (by omega)
      have htk : takeN ((m + 1) * 2) (cellsA sl) = some (cellsA sl) := by rw [← p6]; exact cellsA_take sl
      have h0m : 0 + (m + 1) = m + 1 := by omega
      rcases s6 with ⟨h7, rfl⟩ | ⟨bo, base, o, rs, sb, m1, rfl, m3, m4, m5⟩
      · have hn0 : d.rows.length = 0 := by rw [h7]; rfl
        have tree := str01 nv mv L U tt m (cellsA sl)
        have hpre : preV (cellsA sl) (m + 1) 0 (stoV nv mv L U [] 0 true true) = true := by
          unfold preV
          rw [hn0] at p3
          rw [p1, p2, ofCells_cells, p3]; rfl
        rw [hpl, hpre, h30, htk] at tree
        have tree : ifK ((cellsA sl).all AV.single) (ifK (chk1 L U) (byB (full L U (0 + (m + 1))) (some (errV 16, some (sto0 nv mv L U, 66, true), some (sto0 nv mv L U, 66, true), none, some (cellsA sl, 29, true)))
          (ifK (chk2 U) (some (objV 0, some (sto1 nv mv L (pay U (0 + (m + 1))) 8 1, 66, true), some (sto1 nv mv L (pay U (0 + (m + 1))) 8 1, 66, true), some (.int .i64 4 :: .sl 4 0 (0 + (m + 1)) 2 false :: rest8, 115, true), some (cellsA sl, 29, true)))))) = runStr Tryz.prog 0 8 4 [(66, sto0 nv mv L U)] (.lst (cellsA sl) (m + 1) tt false) := tree.symm
        rw [cellsA_single, chk1_t, chk2_t, h0m] at tree
        cases hfu : full L U (m + 1) with
        | true =>
          rw [hfu] at tree
          obtain ⟨s', r1, r2, _⟩ := run tree.symm
          exact ⟨rfl, s', r1, ends_same0 r2⟩
        | false =>
          rw [hfu] at tree
          obtain ⟨s', r1, r2, _, r3, r4⟩ := run tree.symm
          rw [hn0]
          exact ⟨rfl, s', r1, .inr ⟨L, U, pay U (m + 1), 8, 4, 4, sl, [], _, s2, rfl, fit_more s4 (by omega) hfu, by rw [hn0]; exact r2, r3, .inl ⟨rfl, rfl⟩, .inl ⟨hne, by rw [p6], r4⟩⟩⟩
      · have hn1 : d.rows.length = rs.length + 1 := by rw [← m1]; simp
        have tree := str11 nv mv L U tt m (cellsA sl) o rs
        have hble : Nat.ble (rs.length + 1 + 1) 1073741824 = true := Nat.ble_eq_true_of_le (by
          obtain ⟨q1, q2, q3, q4⟩ := s4
          rw [hn1] at q4; omega)
        have hpre : preV (cellsA sl) (m + 1) (rs.length + 1) (stoV nv mv L U (blurL (objsP (o :: rs))) (rs.length + 1) false false) = true := by
          unfold preV
          rw [hn1] at p3
          rw [p1, p2, ofCells_cells, p3, ask_under nv mv L U (o :: rs), sto_plain nv mv L U (o :: rs)]; rfl
        rw [hpl, hpre, h30, htk] at tree
        have tree : ifK ((cellsA sl).all AV.single) (ifK (chk1 L U) (byB (full L U (0 + (m + 1))) (some (errV 16, some (sto1 nv mv L U 1 (rs.length + 1), 66, true), some (objsP (o :: rs), 115, true), none, some (cellsA sl, 29, true)))
          (ifK (chk2 U) (ifK (Nat.ble (rs.length + 1 + 1) 1073741824) (optK (fun old => some (objV (lastN rs.length), some (sto1 nv mv L (pay U (0 + (m + 1))) 9 (rs.length + 1 + 1), 66, true), some (objsP (o :: rs), 115, stale (objsP (o :: rs)).length (rs.length + 1)),
          some (old ++ (.int .i64 4 :: .sl 5 0 (0 + (m + 1)) 2 false :: rest8), 115, fresh1 (objsP (o :: rs)).length (rs.length + 1)), some (cellsA sl, 29, true))) (cutN ((rs.length + 1) * 10) 0 (objsP (o :: rs)))))))) = runStr Tryz.prog 1 9 5 [(66, sto1 nv mv L U 1 (rs.length + 1)), (115, objsP (o :: rs))] (.lst (cellsA sl) (m + 1) tt false) := tree.symm
        rw [cellsA_single, chk1_t, chk2_t, h0m, hble, cut_objs (o :: rs) (rs.length + 1) rfl] at tree
        cases hfu : full L U (m + 1) with
        | true =>
          rw [hfu] at tree
          obtain ⟨s', r1, r2, r3, _⟩ := run tree.symm
          exact ⟨rfl, s', r1, ends_same1 r2 r3⟩
        | false =>
          rw [hfu] at tree
          have hi : lastN rs.length = Int.ofNat (rs.length + 1) := by
            obtain ⟨q1, q2, q3, q4⟩ := s4
            rw [hn1] at q4
            unfold lastN
            rw [wrap64 (by simp only [Int.ofNat_eq_natCast]; omega) (by simp only [Int.ofNat_eq_natCast]; omega)]
            simp only [Int.ofNat_eq_natCast]; omega
          have tree2 : runStr Tryz.prog 1 9 5 [(66, sto1 nv mv L U 1 (rs.length + 1)), (115, objsP (o :: rs))] (.lst (cellsA sl) (m + 1) tt false) = some (objV (lastN rs.length), some (sto1 nv mv L (pay U (m + 1)) 9 (rs.length + 1 + 1), 66, true), some (objsP (o :: rs), 115, stale (objsP (o :: rs)).length (rs.length + 1)),
            some (objsP (o :: rs) ++ (.int .i64 4 :: .sl 5 0 (m + 1) 2 false :: rest8), 115, fresh1 (objsP (o :: rs)).length (rs.length + 1)), some (cellsA sl, 29, true)) := tree.symm
          rw [hi, show fresh1 (objsP (o :: rs)).length (rs.length + 1) = true from beq_self' _] at tree2
          obtain ⟨s', r1, r2, _, r3, r4⟩ := run tree2
          rw [hn1]
          exact ⟨rfl, s', r1, .inr ⟨L, U, pay U (m + 1), 9, 5, 4, sl, objsP (o :: rs), _, s2, rfl, fit_more s4 (by omega) hfu, by rw [hn1]; exact r2, r3, .inr ⟨_, rfl, rfl⟩, .inl ⟨hne, by rw [p6], r4⟩⟩⟩
  · cases hF) ends
end Go.Am.Sto
end
section
namespace Go.Am.Txt
open Go Go.Am Go.Proofs Go.Am.Sto
section
variable (g : List AV → Nat → Bool) (ls : List AV → List AV) (ln : List AV → Nat) (e : List AV → Bool)
def X95 : Known := (Known.none.add 55 (wX (F55v g ls ln e))).add 38 (methX F38t)
def Y95 {β : Type} : KnownK β := (KnownK.none.add 55 (wK (F55v g ls ln e))).add 38 (methK F38t)
def D95 : Live := fun i => match i with | 0 => .pack [0, 4, 8, 18, 19, 20] | _ => .all
def L95 (P : Program) (rounds : Nat) : T → St → Option R := runLoop P (GU H0) (X95 g ls ln e) (Y95 g ls ln e) 5 8 D95 Res.meth? 2500 95 (.pack [0, 4, 8, 18, 19, 20]) 2 rounds
def b95 (P : Program) (d : Hid) (u : AV) (bs : List Nat) : Option R := bodyY P (GU H0) (X95 g ls ln e) (Y95 g ls ln e) 5 8 D95 Res.meth? 2500 P.funcs[95]? [.ptrL [.hptr 0, u] 0, .str bs] (St.one d)
def t95 (u out l : AV) (n i : Int) : T := tOf 33 [(0, .ptrL [.hptr 0, u] 0), (4, .ptr 1 0), (8, out), (18, l), (19, .int .i64 n), (20, .int .i64 i)]
def st0W (d : Hid) : St := ⟨2, (Tr.nil.set 0 (.hid d)).set 1 (.row (rowE 0 0))⟩
def stW (d : Hid) (C : List AV) : St := ⟨3, ((Tr.nil.set 0 (.hid d)).set 1 (.row (rowE 0 0))).set 2 (.row (rowB 2 29 C))⟩
variable (d : Hid) (u : AV) (bs : List Nat) (tt nl : Bool) (M : Nat) (cs : List AV) (n i j : Nat) (C : List AV)
def madeT (d : Hid) (sl : List V2) : Option R := byB (!eqI (mkOf d 4 sl).1.2 0) none (some (val (mkOf d 4 sl).1.1.1 (mkOf d 4 sl).1.1.2, (mkOf d 4 sl).2))
abbrev mkT (d : Hid) (v : List AV) (k : Nat) : Option R := ifK (isCells v k && (Nat.ble k 4500 && (okAll d.rows.length (ofCells v) && true))) (madeT d (ofCells v))
theorem start95 : b95 g ls ln e Tryz.prog d u bs = ifK (AV.plains [.lst (bytesA bs) bs.length false false]) (ifK (g (bytesA bs) bs.length) (L95 g ls ln e Tryz.prog 2500 (t95 u mt (.lst (ls (bytesA bs)) (ln (bytesA bs)) (e (bytesA bs)) (e (bytesA bs))) (ln (bytesA bs)) 0) (st0W d))) := by kernel_rfl
theorem step95a : L95 g ls ln e Tryz.prog (M + 1) (t95 u mt (.lst cs n tt nl) n (.ofNat i)) (st0W d) = byB (!leI (.ofNat n) (.ofNat i))
    (ifK (Nat.blt i n && nonNil cs) (opt1 .i64 (fun c => ifK (AV.under 2 (.ptrL [.hptr 0, u] 0)) (ifK (AV.under 2 (.lst cs n tt nl)) (L95 g ls ln e Tryz.prog M (t95 u (.sl 2 0 1 2 false) (.lst cs n tt nl) n (IntKind.i64.wrap (.ofNat i + 1))) (stW d [.int .i64 5, .int .i64 c])))) (cs[i * 1]?)))
    (madeT d []) := by kernel_rfl
theorem step95b : L95 g ls ln e Tryz.prog (M + 1) (t95 u (.sl 2 0 (j + 1) 2 false) (.lst cs n tt nl) n (.ofNat i)) (stW d C) = byB (!leI (.ofNat n) (.ofNat i))
    (ifK (Nat.blt i n && nonNil cs) (opt1 .i64 (fun c => ifK (Nat.ble (j + 1 + 1) 1073741824) (optK (fun old => ifK (AV.under 2 (.ptrL [.hptr 0, u] 0)) (ifK (newest C.length ((j + 1) * 2)) (optK (fun v => ifK (nonNil v && AV.plains v) (ifK (AV.under 2 (.lst cs n tt nl))
      (L95 g ls ln e Tryz.prog M (t95 u (.sl 2 0 (j + 1 + 1) 2 false) (.lst cs n tt nl) n (IntKind.i64.wrap (.ofNat i + 1))) (stW d v)))) (cutN ((j + 1 + 1) * 2) 0 (old ++ [.int .i64 5, .int .i64 c]))))) (cutN ((j + 1) * 2) 0 C))) (cs[i * 1]?)))
    (byB (!leI (.ofNat (j + 1)) 4096) none (optK (fun v => ifK (Nat.blt 0 (j + 1) && AV.plains v) (mkT d v (j + 1))) (cutN ((j + 1) * 2) 0 C))) := by kernel_rfl
end
end Go.Am.Txt
end
