import Derived.Test.YtlibahklbbachaaGreatDoorRf17
set_option autoImplicit false
set_option maxRecDepth 100000
set_option linter.unusedSimpArgs false
set_option linter.unusedVariables false
namespace Go.Am.Sto
open Go Go.Am Go.Proofs
def F38u (d : Hid) : List AV → Option (Bool × AV × Hid)
 | [.hptr 0, .int .i64 5, .lst cs m _ nl] => some (isCells cs m && (Nat.ble m 900 && (okAll d.rows.length (ofCells cs) && (bif m.beq 0 then nl else !nl))), getV (mkOf d 5 (ofCells cs)).1, (mkOf d 5 (ofCells cs)).2)
 | _ => none
theorem k38u : MethOk Tryz.prog G0 38 F38u := pres_known (D := noLive) (m := 5) (loops := 5) (n := 8) (Sees := Sees) (Ends := Ends) hm hn G0_plain kXS2 sees (fun d b own w l ar x d' hS hF => by
 unfold F38u at hF
 split at hF
 ·rename_i cs m tt nl
  obtain ⟨L, U, s1, s2, s3, s4, s5, s6⟩ := hS
  simp only [Option.some.injEq, Prod.mk.injEq, Bool.and_eq_true] at hF
  obtain ⟨⟨p1, p2, p3, p4⟩, rfl, rfl⟩ := hF
  obtain ⟨p5, p6⟩ := isCells_eq p1
  have hm9 : m ≤ 900 := Nat.le_of_ble_eq_true p2
  generalize hsl : ofCells cs = sl at *
  subst p5
  have hmk : mkOf d 5 sl = byB (full L U m) (((0, 0), 16), d) (((7, .ofNat d.rows.length), 0), ⟨0, [L, pay U m], d.rows ++ [(5, sl)], []⟩) := by
   unfold mkOf; rw [s2]; simp only [p3, p6]
  rw [hmk]
  refine ⟨_, rfl, ?_⟩
  have hplain : AV.plains [.int .i64 5, .lst (cellsA sl) m tt nl] = true := by
   show (AV.plain (.int .i64 5) && (AV.plains (cellsA sl) && true)) = true
   rw [cellsA_plains]; rfl
  refine ⟨hplain, ?_⟩
  have run : ∀ {ll : List (TypeId × List AV)} {slots : AV} {j r q : Nat} {x a b c e}, runBig Tryz.prog j r q ll slots = some (x, a, b, c, e) → ∃ s', bodyD Tryz.prog G0 (callN Tryz.prog G0 XS2 5 8) noLive 5 Tryz.prog.funcs[38]? [.ptr 0 0, .int .i64 5, slots] (St.rows ll) = .ret x s' ∧ rowI s' 0 = a ∧ rowI s' j = b ∧ rowI s' r = c ∧ rowI s' q = e := fun h => of_mkR (bodyY_le kYS2 h)
  cases m with
  | zero =>
   have hs0 : sl = [] := List.eq_nil_of_length_eq_zero p6
   subst hs0
   simp only [Nat.beq, cond_true] at p4
   subst p4
   rcases s6 with ⟨h7, rfl⟩ | ⟨bo, base, o, rs, sb, m1, rfl, m3, m4, m5⟩
   ·have hn0 : d.rows.length = 0 := by rw [h7]; rfl
    have tree := big00 L U tt
    rw [chk1_t, chk2_t] at tree
    cases hfu : full L U 0 with
    | true =>
     rw [hfu] at tree
     obtain ⟨s', r1, r2, _⟩ := run tree
     exact ⟨rfl, s', r1, ends_same0 r2⟩
    | false =>
     rw [hfu] at tree
     obtain ⟨s', r1, r2, _, r3, r4⟩ := run tree
     rw [hn0]
     exact ⟨rfl, s', r1, .inr ⟨L, U, pay U 0, 6, 4, 5, [], [], mt, s2, rfl, fit_more s4 (by omega) hfu, by rw [hn0]; exact r2, r3, .inl ⟨rfl, rfl⟩, .inr ⟨rfl, rfl⟩⟩⟩
   ·have hn1 : d.rows.length = rs.length + 1 := by rw [← m1]; simp
    have tree := big10 L U tt o rs
    have hble : Nat.ble (rs.length + 1 + 1) 1073741824 = true := Nat.ble_eq_true_of_le (by
     obtain ⟨q1, q2, q3, q4⟩ := s4
     rw [hn1] at q4; omega)
    have hpre : preV [] 0 (rs.length + 1) (stoV L U (blurL (objsP (o :: rs))) (rs.length + 1) false false) = true := by
     unfold preV
     rw [ask_under L U (o :: rs), sto_plain L U (o :: rs)]; rfl
    rw [hpre, chk1_t, chk2_t, hble, cut_objs (o :: rs) (rs.length + 1) rfl] at tree
    cases hfu : full L U 0 with
    | true =>
     rw [hfu] at tree
     obtain ⟨s', r1, r2, r3, _⟩ := run tree
     exact ⟨rfl, s', r1, ends_same1 r2 r3⟩
    | false =>
     rw [hfu] at tree
     have hi : lastN rs.length = Int.ofNat (rs.length + 1) := by
      obtain ⟨q1, q2, q3, q4⟩ := s4
      rw [hn1] at q4
      unfold lastN
      rw [wrap64 (by simp only [Int.ofNat_eq_natCast]; omega) (by simp only [Int.ofNat_eq_natCast]; omega)]
      simp only [Int.ofNat_eq_natCast]; omega
     have tree2 : runBig Tryz.prog 1 7 5 [(66, sto1 L U 1 (rs.length + 1)), (115, objsP (o :: rs))] (.lst [] 0 tt true) = some (objV (lastN rs.length), some (sto1 L (pay U 0) 7 (rs.length + 1 + 1), 66, true), some (objsP (o :: rs), 115, stale (objsP (o :: rs)).length (rs.length + 1)),
      some (objsP (o :: rs) ++ (.int .i64 5 :: mt :: rest8), 115, fresh1 (objsP (o :: rs)).length (rs.length + 1)), some (new2 (lastN rs.length), 29, true)) := tree
     rw [hi, show fresh1 (objsP (o :: rs)).length (rs.length + 1) = true from beq_self' _] at tree2
     obtain ⟨s', r1, r2, _, r3, r4⟩ := run tree2
     rw [hn1]
     exact ⟨rfl, s', r1, .inr ⟨L, U, pay U 0, 7, 5, 5, [], objsP (o :: rs), mt, s2, rfl, fit_more s4 (by omega) hfu, by rw [hn1]; exact r2, r3, .inr ⟨_, rfl, rfl⟩, .inr ⟨rfl, rfl⟩⟩⟩
  | succ m =>
   have hne : sl ≠ [] := fun e => by rw [e] at p6; cases p6
   have hnl : nl = false := by simpa [Nat.beq] using p4
   subst hnl
   have hpl : AV.plain (.lst (cellsA sl) (m + 1) tt false) = true := by
    show AV.plains (cellsA sl) = true
    exact cellsA_plains sl
   have h30 : Nat.ble (0 + (m + 1)) 1073741824 = true := Nat.ble_eq_true_of_le (by omega)
   have htk : takeN ((m + 1) * 2) (cellsA sl) = some (cellsA sl) := by rw [← p6]; exact cellsA_take sl
   have h0m : 0 + (m + 1) = m + 1 := by omega
   rcases s6 with ⟨h7, rfl⟩ | ⟨bo, base, o, rs, sb, m1, rfl, m3, m4, m5⟩
   ·have hn0 : d.rows.length = 0 := by rw [h7]; rfl
    have tree := big01 L U tt m (cellsA sl)
    have hpre : preV (cellsA sl) (m + 1) 0 (stoV L U [] 0 true true) = true := by
     unfold preV
     rw [hn0] at p3
     rw [p1, p2, ofCells_cells, p3]; rfl
    rw [hpl, hpre, h30, htk] at tree
    have tree : ifK ((cellsA sl).all AV.single) (ifK (chk1 L U) (byB (full L U (0 + (m + 1))) (some (errV 16, some (sto0 L U, 66, true), some (sto0 L U, 66, true), none, some (cellsA sl, 29, true)))
     (ifK (chk2 U) (some (objV 0, some (sto1 L (pay U (0 + (m + 1))) 8 1, 66, true), some (sto1 L (pay U (0 + (m + 1))) 8 1, 66, true), some (.int .i64 5 :: .sl 4 0 (0 + (m + 1)) 2 false :: rest8, 115, true), some (cellsA sl, 29, true)))))) = runBig Tryz.prog 0 8 4 [(66, sto0 L U)] (.lst (cellsA sl) (m + 1) tt false) := tree.symm
    rw [cellsA_single, chk1_t, chk2_t, h0m] at tree
    cases hfu : full L U (m + 1) with
    | true =>
     rw [hfu] at tree
     obtain ⟨s', r1, r2, _⟩ := run tree.symm
     exact ⟨rfl, s', r1, ends_same0 r2⟩
    | false =>
     rw [hfu] at tree
     obtain ⟨s', r1, r2, _, r3, r4⟩ := run tree.symm
     rw [hn0]
     exact ⟨rfl, s', r1, .inr ⟨L, U, pay U (m + 1), 8, 4, 5, sl, [], _, s2, rfl, fit_more s4 (by omega) hfu, by rw [hn0]; exact r2, r3, .inl ⟨rfl, rfl⟩, .inl ⟨hne, by rw [p6], r4⟩⟩⟩
   ·have hn1 : d.rows.length = rs.length + 1 := by rw [← m1]; simp
    have tree := big11 L U tt m (cellsA sl) o rs
    have hble : Nat.ble (rs.length + 1 + 1) 1073741824 = true := Nat.ble_eq_true_of_le (by
     obtain ⟨q1, q2, q3, q4⟩ := s4
     rw [hn1] at q4; omega)
    have hpre : preV (cellsA sl) (m + 1) (rs.length + 1) (stoV L U (blurL (objsP (o :: rs))) (rs.length + 1) false false) = true := by
     unfold preV
     rw [hn1] at p3
     rw [p1, p2, ofCells_cells, p3, ask_under L U (o :: rs), sto_plain L U (o :: rs)]; rfl
    rw [hpl, hpre, h30, htk] at tree
    have tree : ifK ((cellsA sl).all AV.single) (ifK (chk1 L U) (byB (full L U (0 + (m + 1))) (some (errV 16, some (sto1 L U 1 (rs.length + 1), 66, true), some (objsP (o :: rs), 115, true), none, some (cellsA sl, 29, true)))
     (ifK (chk2 U) (ifK (Nat.ble (rs.length + 1 + 1) 1073741824) (optK (fun old => some (objV (lastN rs.length), some (sto1 L (pay U (0 + (m + 1))) 9 (rs.length + 1 + 1), 66, true), some (objsP (o :: rs), 115, stale (objsP (o :: rs)).length (rs.length + 1)),
     some (old ++ (.int .i64 5 :: .sl 5 0 (0 + (m + 1)) 2 false :: rest8), 115, fresh1 (objsP (o :: rs)).length (rs.length + 1)), some (cellsA sl, 29, true))) (cutN ((rs.length + 1) * 10) 0 (objsP (o :: rs)))))))) = runBig Tryz.prog 1 9 5 [(66, sto1 L U 1 (rs.length + 1)), (115, objsP (o :: rs))] (.lst (cellsA sl) (m + 1) tt false) := tree.symm
    rw [cellsA_single, chk1_t, chk2_t, h0m, hble, cut_objs (o :: rs) (rs.length + 1) rfl] at tree
    cases hfu : full L U (m + 1) with
    | true =>
     rw [hfu] at tree
     obtain ⟨s', r1, r2, r3, _⟩ := run tree.symm
     exact ⟨rfl, s', r1, ends_same1 r2 r3⟩
    | false =>
     rw [hfu] at tree
     have hi : lastN rs.length = Int.ofNat (rs.length + 1) := by
      obtain ⟨q1, q2, q3, q4⟩ := s4
      rw [hn1] at q4
      unfold lastN
      rw [wrap64 (by simp only [Int.ofNat_eq_natCast]; omega) (by simp only [Int.ofNat_eq_natCast]; omega)]
      simp only [Int.ofNat_eq_natCast]; omega
     have tree2 : runBig Tryz.prog 1 9 5 [(66, sto1 L U 1 (rs.length + 1)), (115, objsP (o :: rs))] (.lst (cellsA sl) (m + 1) tt false) = some (objV (lastN rs.length), some (sto1 L (pay U (m + 1)) 9 (rs.length + 1 + 1), 66, true), some (objsP (o :: rs), 115, stale (objsP (o :: rs)).length (rs.length + 1)),
      some (objsP (o :: rs) ++ (.int .i64 5 :: .sl 5 0 (m + 1) 2 false :: rest8), 115, fresh1 (objsP (o :: rs)).length (rs.length + 1)), some (cellsA sl, 29, true)) := tree.symm
     rw [hi, show fresh1 (objsP (o :: rs)).length (rs.length + 1) = true from beq_self' _] at tree2
     obtain ⟨s', r1, r2, _, r3, r4⟩ := run tree2
     rw [hn1]
     exact ⟨rfl, s', r1, .inr ⟨L, U, pay U (m + 1), 9, 5, 5, sl, objsP (o :: rs), _, s2, rfl, fit_more s4 (by omega) hfu, by rw [hn1]; exact r2, r3, .inr ⟨_, rfl, rfl⟩, .inl ⟨hne, by rw [p6], r4⟩⟩⟩
 ·cases hF) ends
end Go.Am.Sto
