import Derived.Test.YtlibahklbbachaaGreatDoorTx9
import Derived.Shelf.LaysM
import Derived.Shelf.Strconv.Itoa3
import Derived.Shelf.LaysC
import Derived.Shelf.Strconv.AtoiAll
import Derived.Test.YtlibahklbbachaaGreatDoorProg
set_option autoImplicit false
set_option maxRecDepth 100000
set_option linter.unusedSimpArgs false
set_option linter.unusedVariables false
section
namespace Go.Am.Sto
open Go Go.Am Go.Proofs
theorem wrap64 {x : Int} (h0 : -9223372036854775808 ≤ x) (h1 : x < 9223372036854775808) : IntKind.i64.wrap x = x := by
  have e : IntKind.i64.wrap x = if x % 18446744073709551616 ≥ 9223372036854775808 then x % 18446744073709551616 - 18446744073709551616 else x % 18446744073709551616 := by
    unfold IntKind.wrap
    simp [IntKind.signed, IntKind.bits]
  rw [e]
  omega
theorem full_iff {L U : Int} {n m : Nat} (h : Fit L U n) (hm : m ≤ 1073741824) : full L U m = !decide (1 + (m : Int) ≤ L - U) := by
  obtain ⟨h1, h2, h3, h4⟩ := h
  unfold full
  rw [leI_iff, wrap64 (x := L - U) (by omega) (by omega), wrap64 (x := 1 + Int.ofNat m) (by simp only [Int.ofNat_eq_natCast]; omega) (by simp only [Int.ofNat_eq_natCast]; omega)]
  rfl
theorem pay_eq {L U : Int} {n m : Nat} (h : Fit L U n) (hm : m ≤ 1073741824) : pay U m = U + 1 + m := by
  obtain ⟨h1, h2, h3, h4⟩ := h
  unfold pay
  rw [wrap64 (x := 1 + Int.ofNat m) (by simp only [Int.ofNat_eq_natCast]; omega) (by simp only [Int.ofNat_eq_natCast]; omega), wrap64 (by simp only [Int.ofNat_eq_natCast]; omega) (by simp only [Int.ofNat_eq_natCast]; omega)]
  simp only [Int.ofNat_eq_natCast]
  omega
theorem fit_more {L U : Int} {n m : Nat} (h : Fit L U n) (hm : m ≤ 1073741824) (hf : full L U m = false) : Fit L (pay U m) (n + 1) := by
  rw [full_iff h hm] at hf
  rw [pay_eq h hm]
  obtain ⟨h1, h2, h3, h4⟩ := h
  have : 1 + (m : Int) ≤ L - U := by simpa using hf
  refine ⟨by omega, by omega, h3, ?_⟩
  push_cast
  omega
theorem eqI_self : ∀ a : Int, eqI a a = true
  | .ofNat a => by simp [eqI]
  | .negSucc a => by simp [eqI]
theorem chk2_t (U : Int) : chk2 U = true := by unfold chk2; rw [eqI_self]; rfl
theorem chk1_t (L U : Int) : chk1 L U = true := by unfold chk1; rw [eqI_self, chk2_t]; rfl
theorem takeN_all : ∀ l : List AV, takeN l.length l = some l
  | [] => rfl
  | a :: l => by simp only [List.length_cons, takeN, takeN_all l]
theorem cut_objs (rs : List (Ob × Value)) (n : Nat) (h : rs.length = n) : cutN (n * 10) 0 (objsP rs) = some (objsP rs) := by
  subst h
  have := takeN_all (objsP rs)
  rw [objsP_len, Nat.mul_comm] at this
  exact this
theorem beq_self' (a : Nat) : a.beq a = true := by simp
/-! ## What it comes to -/
def okAll (n : Nat) (sl : List V2) : Bool := sl.all fun p => sndB n p.1 p.2
def mkOf (d : Hid) (k : Int) (sl : List V2) : (V2 × Int) × Hid :=
  match d.nums with
  | [L, U] => byB (okAll d.rows.length sl) (byB (full L U sl.length) (((0, 0), 16), d) (((7, .ofNat d.rows.length), 0), ⟨0, [L, pay U sl.length], d.rows ++ [(k, sl)], d.names⟩)) (((0, 0), 2), d)
  | _ => (((0, 0), 2), d)
theorem of_mkR {j r q : Nat} {res : Res} {x : AV} {a b c e : RowI} (h : mkR j r q res = some (x, a, b, c, e)) : ∃ s', res = .ret x s' ∧ rowI s' 0 = a ∧ rowI s' j = b ∧ rowI s' r = c ∧ rowI s' q = e := by
  unfold mkR at h
  split at h
  · cases h; exact ⟨_, rfl, rfl, rfl, rfl, rfl⟩
  · cases h
theorem ends_same0 {d : Hid} {s' : St} {b : Nat} {nv mv : Value} {L U : Int} (h : rowI s' 0 = some (sto0 nv mv L U, 66, true)) : Ends d d [⟨b, 0, 66, sto0 nv mv L U⟩] s' := .inl ⟨rfl, fun i p hp => by
  cases i with
  | zero => simp at hp; subst hp; exact h
  | succ i => simp at hp⟩
theorem ends_same1 {d : Hid} {s' : St} {b bo base n : Nat} {nv mv : Value} {L U : Int} {V : List AV} (h : rowI s' 0 = some (sto1 nv mv L U 1 n, 66, true)) (h1 : rowI s' 1 = some (V, 115, true)) : Ends d d [⟨b, 0, 66, sto1 nv mv L U 1 n⟩, ⟨bo, base, 115, V⟩] s' := .inl ⟨rfl, fun i p hp => by
  match i with
  | 0 => simp at hp; subst hp; exact h
  | 1 => simp at hp; subst hp; exact h1
  | i + 2 => simp at hp⟩
def F38 (d : Hid) : List AV → Option (Bool × AV × Hid)
  | [.hptr 0, .int .i64 1, .lst [.int .i64 a, .int .i64 b, .int .i64 c, .int .i64 e] 2 _ false] => some (!eqI a 6 && !eqI c 6, getV (mkOf d 1 [(a, b), (c, e)]).1, (mkOf d 1 [(a, b), (c, e)]).2)
  | _ => none
theorem k38 : MethOk Tryz.prog G0 38 F38 := pres_known (D := noLive) (m := 5) (loops := 5) (n := 8) (Sees := Sees) (Ends := Ends) hm hn G0_plain kXS sees (fun d b own w l ar x d' hS hF => by
  unfold F38 at hF
  split at hF
  · rename_i a0 b0 c0 e0 tt
    obtain ⟨L, U, nv, mv, s1, s2, s3, s4, s5, s6⟩ := hS
    have hpre : (!eqI a0 6 && !eqI c0 6) = true := by
      simp only [Option.some.injEq, Prod.mk.injEq] at hF
      exact hF.1
    rw [hpre] at hF
    obtain ⟨hpa, hpc⟩ := Bool.and_eq_true_iff.1 hpre
    have hmk : mkOf d 1 [(a0, b0), (c0, e0)] = byB (okAll d.rows.length [(a0, b0), (c0, e0)]) (byB (full L U 2) (((0, 0), 16), d) (((7, .ofNat d.rows.length), 0), ⟨0, [L, pay U 2], d.rows ++ [(1, [(a0, b0), (c0, e0)])], d.names⟩)) (((0, 0), 2), d) := by
      unfold mkOf; rw [s2]; rfl
    rw [hmk] at hF
    have hall : okAll d.rows.length [(a0, b0), (c0, e0)] = (sndB d.rows.length a0 b0 && sndB d.rows.length c0 e0) := by simp [okAll]
    rw [hall] at hF
    refine ⟨_, rfl, rfl, ?_⟩
    rcases s6 with ⟨h7, rfl⟩ | ⟨bo, base, o, rs, sb, m1, rfl, m3, m4, m5⟩
    · have hn0 : d.rows.length = 0 := by rw [h7]; rfl
      rw [hn0] at hF
      have tree := mk0 nv mv L U a0 b0 c0 e0 tt
      rw [chk1_t, chk2_t, hpa, hpc] at tree
      have run : ∀ {x a b c e}, two a0 b0 c0 e0 tt Tryz.prog 0 10 6 1 [(66, sto0 nv mv L U)] = some (x, a, b, c, e) → ∃ s', bodyD Tryz.prog G0 (callN Tryz.prog G0 XS 5 8) noLive 5 Tryz.prog.funcs[38]? [.ptr 0 0, .int .i64 1, .lst [.int .i64 a0, .int .i64 b0, .int .i64 c0, .int .i64 e0] 2 tt false] (St.rows [(66, sto0 nv mv L U)]) = .ret x s' ∧ rowI s' 0 = a ∧ rowI s' 0 = b ∧ rowI s' 10 = c ∧ rowI s' 6 = e := fun h => of_mkR (bodyY_le kYS h)
      cases hs1 : sndB 0 a0 b0 with
      | false =>
        rw [hs1] at hF tree
        cases hF
        obtain ⟨s', r1, r2, _⟩ := run tree
        exact ⟨rfl, s', r1, ends_same0 r2⟩
      | true =>
        cases hs2 : sndB 0 c0 e0 with
        | false =>
          rw [hs1, hs2] at hF tree
          cases hF
          obtain ⟨s', r1, r2, _⟩ := run tree
          exact ⟨rfl, s', r1, ends_same0 r2⟩
        | true =>
          rw [hs1, hs2] at hF tree
          cases hfu : full L U 2 with
          | true =>
            rw [hfu] at hF tree
            cases hF
            obtain ⟨s', r1, r2, _⟩ := run tree
            exact ⟨rfl, s', r1, ends_same0 r2⟩
          | false =>
            rw [hfu] at hF tree
            cases hF
            obtain ⟨s', r1, r2, _, r3, r4⟩ := run tree
            refine ⟨rfl, s', r1, .inr ⟨L, U, pay U 2, 10, 6, 1, [(a0, b0), (c0, e0)], [], .sl 6 0 2 2 false, s2, rfl, fit_more s4 (by omega) hfu, by rw [hn0]; exact r2, r3, .inl ⟨rfl, rfl⟩, .inl ⟨by simp, rfl, r4⟩⟩⟩
    · have hn1 : d.rows.length = rs.length + 1 := by rw [← m1]; simp
      rw [hn1] at hF
      have tree := mk1 nv mv L U a0 b0 c0 e0 tt o rs
      have hble : Nat.ble (rs.length + 1 + 1) 1073741824 = true := Nat.ble_eq_true_of_le (by
        obtain ⟨q1, q2, q3, q4⟩ := s4
        rw [hn1] at q4; omega)
      rw [chk1_t, chk2_t, hpa, hpc, hble, cut_objs (o :: rs) (rs.length + 1) rfl] at tree
      have run : ∀ {x a b c e}, two a0 b0 c0 e0 tt Tryz.prog 1 11 7 1 [(66, sto1 nv mv L U 1 (rs.length + 1)), (115, objsP (o :: rs))] = some (x, a, b, c, e) → ∃ s', bodyD Tryz.prog G0 (callN Tryz.prog G0 XS 5 8) noLive 5 Tryz.prog.funcs[38]? [.ptr 0 0, .int .i64 1, .lst [.int .i64 a0, .int .i64 b0, .int .i64 c0, .int .i64 e0] 2 tt false] (St.rows [(66, sto1 nv mv L U 1 (rs.length + 1)), (115, objsP (o :: rs))]) = .ret x s' ∧ rowI s' 0 = a ∧ rowI s' 1 = b ∧ rowI s' 11 = c ∧ rowI s' 7 = e := fun h => of_mkR (bodyY_le kYS h)
      cases hs1 : sndB (rs.length + 1) a0 b0 with
      | false =>
        rw [hs1] at hF tree
        cases hF
        obtain ⟨s', r1, r2, r3, _⟩ := run tree
        exact ⟨rfl, s', r1, ends_same1 r2 r3⟩
      | true =>
        cases hs2 : sndB (rs.length + 1) c0 e0 with
        | false =>
          rw [hs1, hs2] at hF tree
          cases hF
          obtain ⟨s', r1, r2, r3, _⟩ := run tree
          exact ⟨rfl, s', r1, ends_same1 r2 r3⟩
        | true =>
          rw [hs1, hs2] at hF tree
          cases hfu : full L U 2 with
          | true =>
            rw [hfu] at hF tree
            cases hF
            obtain ⟨s', r1, r2, r3, _⟩ := run tree
            exact ⟨rfl, s', r1, ends_same1 r2 r3⟩
          | false =>
            rw [hfu] at hF tree
            cases hF
            have hi : IntKind.i64.wrap (Int.ofNat (rs.length + 1 + 1) - 1) = Int.ofNat (rs.length + 1) := by
              obtain ⟨q1, q2, q3, q4⟩ := s4
              rw [hn1] at q4
              rw [wrap64 (by simp only [Int.ofNat_eq_natCast]; omega) (by simp only [Int.ofNat_eq_natCast]; omega)]
              simp only [Int.ofNat_eq_natCast]; omega
            have tree2 : two a0 b0 c0 e0 tt Tryz.prog 1 11 7 1 [(66, sto1 nv mv L U 1 (rs.length + 1)), (115, objsP (o :: rs))] = some (objV (IntKind.i64.wrap ((.ofNat (rs.length + 1 + 1)) - 1)), some (sto1 nv mv L (pay U 2) 11 (rs.length + 1 + 1), 66, true),
              some (objsP (o :: rs), 115, Nat.beq 0 (bif Nat.ble (1 + (objsP (o :: rs)).length) (1 + 0 + (rs.length + 1) * 10) then 0 else 0 + 1)), some (objsP (o :: rs) ++ (.int .i64 1 :: .sl 7 0 2 2 false :: rest8), 115, fresh1 (objsP (o :: rs)).length (rs.length + 1)), some ([.int .i64 a0, .int .i64 b0, .int .i64 c0, .int .i64 e0], 29, true)) := tree
            rw [hi, show fresh1 (objsP (o :: rs)).length (rs.length + 1) = true from beq_self' _] at tree2
            obtain ⟨s', r1, r2, _, r3, r4⟩ := run tree2
            refine ⟨rfl, s', r1, .inr ⟨L, U, pay U 2, 11, 7, 1, [(a0, b0), (c0, e0)], objsP (o :: rs), .sl 7 0 2 2 false, s2, rfl, fit_more s4 (by omega) hfu, by rw [hn1]; exact r2, r3, .inr ⟨_, rfl, rfl⟩, .inl ⟨by simp, rfl, r4⟩⟩⟩
  · cases hF) ends
/-! ## New -/
def newHid (L : Int) : Hid := ⟨0, [L, 0], [], []⟩
def F8 : List AV → Option (Hid × List AV)
  | [.int .i64 5000] => some (newHid 5000, [.int .i64 0])
  | [.int .i64 20000] => some (newHid 20000, [.int .i64 0])
  | [.int .i64 3000] => some (newHid 3000, [.int .i64 0])
  | _ => none
def newS (L : Int) : St := pushRow (St.empty.push (.mapo [])) 66 [.int .i64 L, .int .i64 0, mt, mt, .mp (some 0)]
theorem new5 : bodyD Tryz.prog G0 (callN Tryz.prog G0 .none 0 5) noLive 0 Tryz.prog.funcs[8]? [.int .i64 5000] St.empty = .ret (.tup [.ptr 1 0, .int .i64 0]) (newS 5000) := by kernel_rfl
theorem new20 : bodyD Tryz.prog G0 (callN Tryz.prog G0 .none 0 5) noLive 0 Tryz.prog.funcs[8]? [.int .i64 20000] St.empty = .ret (.tup [.ptr 1 0, .int .i64 0]) (newS 20000) := by kernel_rfl
theorem new3 : bodyD Tryz.prog G0 (callN Tryz.prog G0 .none 0 5) noLive 0 Tryz.prog.funcs[8]? [.int .i64 3000] St.empty = .ret (.tup [.ptr 1 0, .int .i64 0]) (newS 3000) := by kernel_rfl
theorem newS_row (L : Int) : rowI (newS L) 1 = some ([.int .i64 L, .int .i64 0, mt, mt, .mp (some 0)], 66, true) ∧ ∃ o, (newS L).get 1 = some (.row o) ∧ o.root = 1 ∧ o.pos = 0 := ⟨rfl, _, rfl, rfl, rfl⟩
theorem newS_map (L : Int) : (newS L).get 0 = some (.mapo []) := rfl
theorem k8 : BornOk Tryz.prog G0 8 F8 := born_known (D := noLive) (m := 0) (loops := 0) (n := 5) (Ends := fun d s1 r0 => r0 = 1 ∧ ∃ L : Int, 0 ≤ L ∧ L ≤ 1048576 ∧ d = newHid L ∧ s1 = newS L) hm hn G0_plain (KnownOk.none _ _) (fun ar d xs hF => by
    unfold F8 at hF
    split at hF
    · cases hF; exact ⟨rfl, rfl, _, _, new5, ⟨rfl, 5000, by omega, by omega, rfl, rfl⟩, (newS_row 5000).2⟩
    · cases hF; exact ⟨rfl, rfl, _, _, new20, ⟨rfl, 20000, by omega, by omega, rfl, rfl⟩, (newS_row 20000).2⟩
    · cases hF; exact ⟨rfl, rfl, _, _, new3, ⟨rfl, 3000, by omega, by omega, rfl, rfl⟩, (newS_row 3000).2⟩
    · cases hF) (fun d s1 r0 w E0 E1 w' b hE h0 hs hl => by
    obtain ⟨rfl, L, hL0, hL1, rfl, rfl⟩ := hE
    obtain ⟨arr, g1, g2, g3, vs, g4, g5⟩ := row_cells hs.rel (newS_row L).1 hl
    have fresh : ∀ r c, E1.loc r = some (c, 0) → c < w'.heap.size ∧ w.heap.size ≤ c := fun r c hc => by
      refine ⟨(hs.rel.lt r c 0 hc).2, ?_⟩
      rcases hs.new r c 0 hc with h1 | ⟨r2, base, h1⟩
      · exact h1
      · rw [h0 r2] at h1; cases h1
    have hlen := g4.length
    cases g4 with
    | cons a1 v1 => cases v1 with
      | cons a2 v1 => cases v1 with
        | cons a3 v1 => cases v1 with
          | cons a4 v1 => cases v1 with
            | cons a5 v1 =>
              cases v1
              cases a1; cases a2
              have := mt_slice a3; have := mt_slice a4
              subst_vars
              cases a5 with
              | mp hm0 =>
                rename_i bm
                obtain ⟨ents, clock, q1, q2, q3⟩ := hs.rel.mapo 0 [] bm 0 (newS_map L) hm0
                refine ⟨fun c => c = b ∨ c = bm, fun c hc => ?_, fun w1 hw => ?_⟩
                · rcases hc with rfl | rfl
                  · exact fresh 1 _ hl
                  · exact fresh 0 _ hm0
                · have e2 : ents.toList.map (·.key) = [] := by
                    generalize ents.toList.map (·.key) = k at q2
                    cases q2; rfl
                  have e3 : ents.toList.map (·.val) = [] := by
                    generalize ents.toList.map (·.val) = k at q3
                    cases q3; rfl
                  exact ⟨L, 0, _, _, _, rfl, rfl, ⟨.inl ⟨rfl, rfl⟩, bm, ents, clock, rfl, .inr rfl, by rw [hw _ (.inr rfl)]; exact q1, e2, e3⟩, ⟨by omega, hL0, hL1, by simp [newHid]⟩, .inl rfl, ⟨arr, by rw [hw _ (.inl rfl)]; exact g1, by rw [← hlen]; exact g3, g5⟩, .inl ⟨rfl, rfl⟩⟩)
end Go.Am.Sto
end
section
namespace Go.Am.Sto
open Go Go.Am Go.Proofs
/-! ## What is known -/
def X1 : Known := (((((Known.none.add 83 (methX F83)).add 92 (methX F92)).add 79 (methX F79)).add 25 (methX F25)).add 142 (methX F142)).add 38 (methX F38)
def Y1 {β : Type} : KnownK β := (((((KnownK.none.add 83 (methK F83)).add 92 (methK F92)).add 79 (methK F79)).add 25 (methK F25)).add 142 (methK F142)).add 38 (methK F38)
theorem kX1 : KnownOk Tryz.prog G0 X1 := ((((((KnownOk.none _ _).add k83).add k92).add k79).add k25).add k142').add k38
theorem addK {β : Type} {X : Known} {Y : KnownK β} (hY : KnownKOk X Y) (f : FuncId) (F : Hid → List AV → Option (Bool × AV × Hid)) : KnownKOk (X.add f (methX F)) (Y.add f (methK F)) := by
  intro g q hq
  unfold KnownK.add at hq
  rcases Bool.eq_false_or_eq_true (Nat.beq g f) with hb | hb
  · rw [cond_of_true hb] at hq
    cases hq
    exact ⟨methX F, by unfold Known.add; rw [cond_of_true hb], methK_le F⟩
  · rw [cond_of_false hb] at hq
    obtain ⟨h, h1, h2⟩ := hY g q hq
    exact ⟨h, by unfold Known.add; rw [cond_of_false hb]; exact h1, h2⟩
theorem kY1 {β : Type} : KnownKOk X1 (Y1 : KnownK β) := addK (addK (addK (addK (addK (addK (KnownKOk.none _) 83 F83) 92 F92) 79 F79) 25 F25) 142 F142) 38 F38
/-! ## The elements of a list -/
def D86 : Live := fun i => match i with | 0 => .pack [0, 3, 6, 7] | _ => .all
abbrev R := AV × Hid
def L86 (P : Program) (rounds : Nat) : T → St → Option R := runLoop P G0 X1 Y1 5 8 D86 Res.meth? 5000 86 (.pack [0, 3, 6, 7]) 2 rounds
def rowE (t n : Int) : Row := { vals := [.int .i64 t, .int .i64 n], root := 1, pos := 0, ep := 0, fep := 0, ext := 2, solo := true, ty := 29 }
def stE0 (d : Hid) (t n : Int) : St := ⟨2, (Tr.nil.set 0 (.hid d)).set 1 (.row (rowE t n))⟩
def stE1 (d : Hid) (t n : Int) (C : List AV) : St := ⟨3, ((Tr.nil.set 0 (.hid d)).set 1 (.row (rowE t n))).set 2 (.row (rowB 2 29 C))⟩
def tE (u out : AV) (room : Int) : T := tOf 49 [(0, .ptrL [.hptr 0, u] 0), (3, .ptr 1 0), (6, out), (7, .int .i64 room)]
theorem start86 (d : Hid) (u : AV) (t n : Int) : bodyY Tryz.prog G0 X1 Y1 5 8 D86 Res.meth? 5000 Tryz.prog.funcs[86]? [.ptrL [.hptr 0, u] 0, val t n] (St.one d) = L86 Tryz.prog 5000 (tE u mt (usedOf d)) (stE0 d t n) := by kernel_rfl
abbrev getO (d : Hid) (t n j : Int) : V2 × Int := getOf d.rows t n j
abbrev vI (p : V2) : List AV := [.int .i64 p.1, .int .i64 p.2]
theorem step86a (N : Nat) (d : Hid) (u : AV) (t n room : Int) : L86 Tryz.prog (N + 1) (tE u mt room) (stE0 d t n) =
    byB (eqI (kindOf d.rows t n) 1) (byB (!leI 0 room) (some (.tup [.lst [] 0 false true, .bool false], d)) (byB (!eqI (getO d t n 0).2 0) none (byB (!eqI (getO d t n 1).2 0) none
      (ifK (AV.under 2 (.ptrL [.hptr 0, u] 0)) (L86 Tryz.prog N (tE u (.sl 2 0 1 2 false) (IntKind.i64.wrap (room - 1))) (stE1 d (getO d t n 1).1.1 (getO d t n 1).1.2 (vI (getO d t n 0).1)))))))
      (ifK (eqI t t && true) (some (.tup [.lst [] 0 false true, .bool (eqI t 0)], d))) := by kernel_rfl
theorem step86b (N : Nat) (d : Hid) (u : AV) (t n room : Int) (k : Nat) (C : List AV) : L86 Tryz.prog (N + 1) (tE u (.sl 2 0 (k + 1) 2 false) room) (stE1 d t n C) =
    byB (eqI (kindOf d.rows t n) 1) (byB (!leI 0 room) (some (.tup [.lst [] 0 false true, .bool false], d)) (byB (!eqI (getO d t n 0).2 0) none (ifK (Nat.ble (k + 1 + 1) 1073741824) (optK (fun old => byB (!eqI (getO d t n 1).2 0) none
      (ifK (AV.under 2 (.ptrL [.hptr 0, u] 0)) (ifK ((bif Nat.ble (1 + C.length) (1 + 0 + (k + 1) * 2) then 0 else 0 + 1).beq (bif Nat.ble (1 + C.length) (1 + 0 + (k + 1) * 2) then 0 else 0 + 1))
        (optK (fun cs => ifK (nonNil cs && AV.plains cs) (L86 Tryz.prog N (tE u (.sl 2 0 (k + 1 + 1) 2 false) (IntKind.i64.wrap (room - 1))) (stE1 d (getO d t n 1).1.1 (getO d t n 1).1.2 cs))) (cutN ((k + 1 + 1) * 2) 0 (old ++ vI (getO d t n 0).1))))))
      (cutN ((k + 1) * 2) 0 C)))))
      (ifK (eqI t t && true) (optK (fun cs => ifK (Nat.blt 0 (k + 1) && AV.flats cs) (some (.tup [.lst cs (k + 1) false false, .bool (eqI t 0)], d))) (cutN ((k + 1) * 2) 0 C))) := by kernel_rfl
end Go.Am.Sto
end
section
namespace Go.Proofs
open Go.Shelf
def Tryz.laysM171_ren : Go.Shelf.Ren := ⟨fun | 171 => 126 | 243 => 172 | 246 => 210 | 283 => 233 | 284 => 234 | 285 => 235 | 286 => 236 | 129 => 245 | 317 => 244 | 318 => 246 | 319 => 247 | 320 => 248 | 337 => 252 | 338 => 253 | n => n, fun | 3 => 3 | 9 => 9 | 2 => 2 | 4 => 4 | 171 => 278 | 0 => 0 | 53 => 179 | 37 => 50 | 5 => 5 | 173 => 281 | 212 => 291 | 51 => 75 | 20 => 20 | 213 => 292 | 46 => 192 | 232 => 296 | 233 => 297 | n => n, fun | 17 => 4 | 18 => 6 | 19 => 7 | n => n⟩
theorem Tryz.laysM171 : Go.Proofs.LaysM.n171 Tryz.prog Tryz.laysM171_ren := {
  mixed := by kernel_rfl
  f129 := Tryz.func245.trans (congrArg some (by kernel_rfl))
  f171 := Tryz.func126.trans (congrArg some (by kernel_rfl))
  f243 := Tryz.func172.trans (congrArg some (by kernel_rfl))
  f246 := Tryz.func210.trans (congrArg some (by kernel_rfl))
  f283 := Tryz.func233.trans (congrArg some (by kernel_rfl))
  f284 := Tryz.func234.trans (congrArg some (by kernel_rfl))
  f285 := Tryz.func235.trans (congrArg some (by kernel_rfl))
  f286 := Tryz.func236.trans (congrArg some (by kernel_rfl))
  f317 := Tryz.func244.trans (congrArg some (by kernel_rfl))
  f318 := Tryz.func246.trans (congrArg some (by kernel_rfl))
  f319 := Tryz.func247.trans (congrArg some (by kernel_rfl))
  f320 := Tryz.func248.trans (congrArg some (by kernel_rfl))
  f337 := Tryz.func252.trans (congrArg some (by kernel_rfl))
  f338 := Tryz.func253.trans (congrArg some (by kernel_rfl))
  t0 := Tryz.underlying0
  a0 := Tryz.isAgg0
  z0 := Tryz.sizeOf0
  v0 := Tryz.zeroValue0
  t2 := Tryz.underlying2
  a2 := Tryz.isAgg2
  z2 := Tryz.sizeOf2
  v2 := Tryz.zeroValue2
  t3 := Tryz.underlying3
  a3 := Tryz.isAgg3
  z3 := Tryz.sizeOf3
  v3 := Tryz.zeroValue3
  t4 := Tryz.underlying4
  a4 := Tryz.isAgg4
  z4 := Tryz.sizeOf4
  v4 := Tryz.zeroValue4
  t5 := Tryz.underlying5
  a5 := Tryz.isAgg5
  z5 := Tryz.sizeOf5
  v5 := Tryz.zeroValue5
  t9 := Tryz.underlying9
  a9 := Tryz.isAgg9
  z9 := Tryz.sizeOf9
  v9 := Tryz.zeroValue9
  t20 := Tryz.underlying20
  a20 := Tryz.isAgg20
  z20 := Tryz.sizeOf20
  v20 := Tryz.zeroValue20
  t37 := Tryz.underlying50
  a37 := Tryz.isAgg50
  z37 := Tryz.sizeOf50
  v37 := Tryz.zeroValue50
  t46 := Tryz.underlying192
  a46 := Tryz.isAgg192
  z46 := Tryz.sizeOf192
  v46 := Tryz.zeroValue192
  t51 := Tryz.underlying75
  a51 := Tryz.isAgg75
  z51 := Tryz.sizeOf75
  v51 := Tryz.zeroValue75
  t53 := Tryz.underlying179
  a53 := Tryz.isAgg179
  z53 := Tryz.sizeOf179
  v53 := Tryz.zeroValue179
  t171 := Tryz.underlying278
  a171 := Tryz.isAgg278
  z171 := Tryz.sizeOf278
  v171 := Tryz.zeroValue278
  t173 := Tryz.underlying281
  a173 := Tryz.isAgg281
  z173 := Tryz.sizeOf281
  v173 := Tryz.zeroValue281
  t212 := Tryz.underlying291
  a212 := Tryz.isAgg291
  z212 := Tryz.sizeOf291
  v212 := Tryz.zeroValue291
  t213 := Tryz.underlying292
  a213 := Tryz.isAgg292
  z213 := Tryz.sizeOf292
  t232 := Tryz.underlying296
  a232 := Tryz.isAgg296
  z232 := Tryz.sizeOf296
  v232 := Tryz.zeroValue296
  t233 := Tryz.underlying297
  a233 := Tryz.isAgg297
  z233 := Tryz.sizeOf297
  v233 := Tryz.zeroValue297
  g17 := by kernel_rfl
  g18 := by kernel_rfl
  g19 := by kernel_rfl
  i0 := by kernel_rfl
  i2 := by kernel_rfl
  i3 := by kernel_rfl
  i4 := by kernel_rfl
  i5 := by kernel_rfl
  i9 := by kernel_rfl
  i20 := by kernel_rfl
  i37 := by kernel_rfl
  i46 := by kernel_rfl
  i51 := by kernel_rfl
  i53 := by kernel_rfl
  i171 := by kernel_rfl
  i173 := by kernel_rfl
  i212 := by kernel_rfl
  i232 := by kernel_rfl
  i233 := by kernel_rfl
  m17 := by kernel_rfl
  m18 := by kernel_rfl
  m19 := by kernel_rfl }
open Go.RowKit Go.Sort Go.Lib in
theorem Tryz.strconv_Itoa (n : Int) (h0 : -9223372036854775808 ≤ n) (h1 : n ≤ 9223372036854775807) (w : World) (htab : Lib.TabIs Tryz.prog w "internal/strconv.uint64pow10" .u64 Lib.pow10Tab) :
    Calls Tryz.prog 126 #[.int .i64 n] w fun e w' => e = .returned (.string ⟨(Lib.itoa n).toArray⟩) ∧ ∃ k os, w' = grow (w.drewN k) os := Any.strconv_Itoa Tryz.laysM171 n h0 h1 w htab
def Tryz.laysC172_ren : Go.Shelf.Ren := ⟨fun | 172 => 59 | 244 => 123 | 245 => 124 | 247 => 166 | 279 => 167 | 280 => 168 | 281 => 169 | 282 => 170 | 287 => 206 | 316 => 207 | 171 => 126 | 205 => 208 | 321 => 231 | 322 => 232 | 243 => 172 | 246 => 210 | 283 => 233 | 284 => 234 | 285 => 235 | 286 => 236 | 129 => 245 | 317 => 244 | 318 => 246 | 319 => 247 | 320 => 248 | 337 => 252 | 338 => 253 | n => n, fun | 9 => 9 | 3 => 3 | 75 => 104 | 76 => 105 | 4 => 4 | 5 => 5 | 167 => 220 | 37 => 50 | 0 => 0 | 85 => 221 | 2 => 2 | 168 => 223 | 53 => 179 | 175 => 255 | 46 => 192 | 210 => 259 | 127 => 227 | 145 => 277 | 143 => 275 | 21 => 21 | 171 => 278 | 173 => 281 | 212 => 291 | 51 => 75 | 20 => 20 | 213 => 292 | 232 => 296 | 233 => 297 | 80 => 177 | n => n, fun | 15 => 2 | 16 => 3 | 17 => 4 | 18 => 6 | 19 => 7 | n => n⟩
theorem Tryz.laysC172 : Go.Proofs.LaysC.n172 Tryz.prog Tryz.laysC172_ren := {
  mixed := by kernel_rfl
  f129 := Tryz.func245.trans (congrArg some (by kernel_rfl))
  f171 := Tryz.func126.trans (congrArg some (by kernel_rfl))
  f172 := Tryz.func59.trans (congrArg some (by kernel_rfl))
  f205 := Tryz.func208.trans (congrArg some (by kernel_rfl))
  f243 := Tryz.func172.trans (congrArg some (by kernel_rfl))
  f244 := Tryz.func123.trans (congrArg some (by kernel_rfl))
  f245 := Tryz.func124.trans (congrArg some (by kernel_rfl))
  f246 := Tryz.func210.trans (congrArg some (by kernel_rfl))
  f247 := Tryz.func166.trans (congrArg some (by kernel_rfl))
  f279 := Tryz.func167.trans (congrArg some (by kernel_rfl))
  f280 := Tryz.func168.trans (congrArg some (by kernel_rfl))
  f281 := Tryz.func169.trans (congrArg some (by kernel_rfl))
  f282 := Tryz.func170.trans (congrArg some (by kernel_rfl))
  f283 := Tryz.func233.trans (congrArg some (by kernel_rfl))
  f284 := Tryz.func234.trans (congrArg some (by kernel_rfl))
  f285 := Tryz.func235.trans (congrArg some (by kernel_rfl))
  f286 := Tryz.func236.trans (congrArg some (by kernel_rfl))
  f287 := Tryz.func206.trans (congrArg some (by kernel_rfl))
  f316 := Tryz.func207.trans (congrArg some (by kernel_rfl))
  f317 := Tryz.func244.trans (congrArg some (by kernel_rfl))
  f318 := Tryz.func246.trans (congrArg some (by kernel_rfl))
  f319 := Tryz.func247.trans (congrArg some (by kernel_rfl))
  f320 := Tryz.func248.trans (congrArg some (by kernel_rfl))
  f321 := Tryz.func231.trans (congrArg some (by kernel_rfl))
  f322 := Tryz.func232.trans (congrArg some (by kernel_rfl))
  f337 := Tryz.func252.trans (congrArg some (by kernel_rfl))
  f338 := Tryz.func253.trans (congrArg some (by kernel_rfl))
  t0 := Tryz.underlying0
  a0 := Tryz.isAgg0
  z0 := Tryz.sizeOf0
  v0 := Tryz.zeroValue0
  t2 := Tryz.underlying2
  a2 := Tryz.isAgg2
  z2 := Tryz.sizeOf2
  v2 := Tryz.zeroValue2
  t3 := Tryz.underlying3
  a3 := Tryz.isAgg3
  z3 := Tryz.sizeOf3
  v3 := Tryz.zeroValue3
  t4 := Tryz.underlying4
  a4 := Tryz.isAgg4
  z4 := Tryz.sizeOf4
  v4 := Tryz.zeroValue4
  t5 := Tryz.underlying5
  a5 := Tryz.isAgg5
  z5 := Tryz.sizeOf5
  v5 := Tryz.zeroValue5
  t9 := Tryz.underlying9
  a9 := Tryz.isAgg9
  z9 := Tryz.sizeOf9
  v9 := Tryz.zeroValue9
  t20 := Tryz.underlying20
  a20 := Tryz.isAgg20
  z20 := Tryz.sizeOf20
  v20 := Tryz.zeroValue20
  t21 := Tryz.underlying21
  a21 := Tryz.isAgg21
  z21 := Tryz.sizeOf21
  v21 := Tryz.zeroValue21
  t37 := Tryz.underlying50
  a37 := Tryz.isAgg50
  z37 := Tryz.sizeOf50
  v37 := Tryz.zeroValue50
  t46 := Tryz.underlying192
  a46 := Tryz.isAgg192
  z46 := Tryz.sizeOf192
  v46 := Tryz.zeroValue192
  t51 := Tryz.underlying75
  a51 := Tryz.isAgg75
  z51 := Tryz.sizeOf75
  v51 := Tryz.zeroValue75
  t53 := Tryz.underlying179
  a53 := Tryz.isAgg179
  z53 := Tryz.sizeOf179
  v53 := Tryz.zeroValue179
  t75 := Tryz.underlying104
  a75 := Tryz.isAgg104
  z75 := Tryz.sizeOf104
  v75 := Tryz.zeroValue104
  t76 := Tryz.underlying105
  a76 := Tryz.isAgg105
  z76 := Tryz.sizeOf105
  v76 := Tryz.zeroValue105
  t85 := Tryz.underlying221
  a85 := Tryz.isAgg221
  z85 := Tryz.sizeOf221
  v85 := Tryz.zeroValue221
  t127 := Tryz.underlying227
  a127 := Tryz.isAgg227
  z127 := Tryz.sizeOf227
  v127 := Tryz.zeroValue227
  t143 := Tryz.underlying275
  a143 := Tryz.isAgg275
  z143 := Tryz.sizeOf275
  v143 := Tryz.zeroValue275
  t145 := Tryz.underlying277
  a145 := Tryz.isAgg277
  z145 := Tryz.sizeOf277
  v145 := Tryz.zeroValue277
  t167 := Tryz.underlying220
  a167 := Tryz.isAgg220
  z167 := Tryz.sizeOf220
  v167 := Tryz.zeroValue220
  t168 := Tryz.underlying223
  a168 := Tryz.isAgg223
  z168 := Tryz.sizeOf223
  v168 := Tryz.zeroValue223
  t171 := Tryz.underlying278
  a171 := Tryz.isAgg278
  z171 := Tryz.sizeOf278
  v171 := Tryz.zeroValue278
  t173 := Tryz.underlying281
  a173 := Tryz.isAgg281
  z173 := Tryz.sizeOf281
  v173 := Tryz.zeroValue281
  t175 := Tryz.underlying255
  a175 := Tryz.isAgg255
  z175 := Tryz.sizeOf255
  v175 := Tryz.zeroValue255
  t210 := Tryz.underlying259
  a210 := Tryz.isAgg259
  z210 := Tryz.sizeOf259
  v210 := Tryz.zeroValue259
  t212 := Tryz.underlying291
  a212 := Tryz.isAgg291
  z212 := Tryz.sizeOf291
  v212 := Tryz.zeroValue291
  t213 := Tryz.underlying292
  a213 := Tryz.isAgg292
  z213 := Tryz.sizeOf292
  t232 := Tryz.underlying296
  a232 := Tryz.isAgg296
  z232 := Tryz.sizeOf296
  v232 := Tryz.zeroValue296
  t233 := Tryz.underlying297
  a233 := Tryz.isAgg297
  z233 := Tryz.sizeOf297
  v233 := Tryz.zeroValue297
  g15 := by kernel_rfl
  g16 := by kernel_rfl
  g17 := by kernel_rfl
  g18 := by kernel_rfl
  g19 := by kernel_rfl
  t80 := Tryz.underlying177
  a80 := Tryz.isAgg177
  z80 := Tryz.sizeOf177
  v80 := Tryz.zeroValue177
  i0 := by kernel_rfl
  i2 := by kernel_rfl
  i3 := by kernel_rfl
  i4 := by kernel_rfl
  i5 := by kernel_rfl
  i9 := by kernel_rfl
  i20 := by kernel_rfl
  i21 := by kernel_rfl
  i37 := by kernel_rfl
  i46 := by kernel_rfl
  i51 := by kernel_rfl
  i53 := by kernel_rfl
  i75 := by kernel_rfl
  i76 := by kernel_rfl
  i80 := by kernel_rfl
  i85 := by kernel_rfl
  i127 := by kernel_rfl
  i143 := by kernel_rfl
  i145 := by kernel_rfl
  i167 := by kernel_rfl
  i168 := by kernel_rfl
  i171 := by kernel_rfl
  i173 := by kernel_rfl
  i175 := by kernel_rfl
  i210 := by kernel_rfl
  i212 := by kernel_rfl
  i232 := by kernel_rfl
  i233 := by kernel_rfl
  m15 := by kernel_rfl
  m16 := by kernel_rfl
  m17 := by kernel_rfl
  m18 := by kernel_rfl
  m19 := by kernel_rfl
  c0 := by kernel_rfl
  c2 := by kernel_rfl
  c3 := by kernel_rfl
  c4 := by kernel_rfl
  c5 := by kernel_rfl
  c9 := by kernel_rfl
  c20 := by kernel_rfl
  c21 := by kernel_rfl
  c37 := by kernel_rfl
  c46 := by kernel_rfl
  c51 := by kernel_rfl
  c53 := by kernel_rfl
  c75 := by kernel_rfl
  c76 := by kernel_rfl
  c80 := by kernel_rfl
  c85 := by kernel_rfl
  c127 := by kernel_rfl
  c143 := by kernel_rfl
  c145 := by kernel_rfl
  c167 := by kernel_rfl
  c168 := by kernel_rfl
  c171 := by kernel_rfl
  c173 := by kernel_rfl
  c175 := by kernel_rfl
  c210 := by kernel_rfl
  c212 := by kernel_rfl
  c213 := by kernel_rfl
  c232 := by kernel_rfl
  c233 := by kernel_rfl }
open Go.RowKit in
theorem Tryz.strconv_Atoi_ok (s : ByteArray) (hmax : s.size ≤ 9223372036854775806) (v : Int) (h : Lib.atoiAll s.data.toList = .ok v) (w : World) :
    Calls Tryz.prog 59 #[.string s] w fun e w' => e = .returned (.tuple #[.int .i64 v, .nilIface]) ∧ (w' = w ∨ ∃ t, w' = Lib.bytesWorld w 5 t) := Any.strconv_Atoi_ok Tryz.laysC172 s hmax v h w
end Go.Proofs
end
section
namespace Go.Am
open Go Go.Proofs
theorem Step.fresh {E : Env} {s : St} {w w' : World} (h0 : Rel E s w) (hfr : ∀ b, b < w.heap.size → w'.heap[b]? = w.heap[b]?) (hos : w'.os = w.os) (htp : w'.tape = w.tape) (hout : w'.output = w.output) (hsz : w.heap.size ≤ w'.heap.size) : Step E s w E s w' := by
  refine ⟨.refl E, fun _ _ => rfl, fun r b base e => .inr ⟨r, base, e⟩, ?_, fun _ _ _ _ _ => rfl, Nat.le_refl _, fun b hb _ _ => hfr b hb, hos, htp, hout, hsz, fun _ _ e => .inl e, fun _ d e => ⟨d, e⟩, fun _ _ _ e => .inl e⟩
  refine ⟨h0.wf, fun r b base e => ⟨(h0.lt r b base e).1, Nat.lt_of_lt_of_le (h0.lt r b base e).2 hsz⟩, h0.obj, fun b o v e => ?_, h0.zap, ?_, ?_, h0.iter, h0.coh, h0.b0,
    fun n d b e eb w1 hw => h0.hid n d b e eb w1 fun k hk => (hw k hk).trans (hfr k (h0.own n k hk).1), fun n k hk => ⟨Nat.lt_of_lt_of_le (h0.own n k hk).1 hsz, (h0.own n k hk).2⟩, h0.hlt⟩
  · have h1 := h0.z b o v e
    have hlt := World.block_lt_of_cell? w _ h1
    rw [World.cell?_of_block (w := w) (hfr b hlt)]; exact h1
  · intro r o b base e el
    rw [hfr b (h0.lt r b base el).2]
    exact h0.row r o b base e el
  · intro r es b base e el
    rw [hfr b (h0.lt r b base el).2]
    exact h0.mapo r es b base e el
end Go.Am
namespace Go.Am.Sto
open Go Go.Am Go.Proofs
def G2 : Glob := { at_ := fun g => match g with | 3 => some [.ifc 275 .undef] | 4 => some (Lib.pow10Tab.map (AV.int .u64)) | _ => none, H := H0, siz := fun g => match g with | 4 => some 20 | _ => none }
theorem G2_plain : GlobPlain G2 := fun g cs h => by
  unfold G2 at h
  simp only at h
  split at h
  · cases h; rfl
  · cases h; kernel_rfl
  · cases h
theorem ints_vals {E : Env} {k : IntKind} : ∀ {l : List Int} {vs : List Value}, VRL E (l.map (AV.int k)) vs → vs = l.map (Value.int k)
  | [], _, h => by cases h; rfl
  | z :: l, _, h => by
    cases h with
    | cons h1 h2 => cases h1; rw [ints_vals h2]; rfl
theorem tab_of {E : Env} {w : World} {s : St} (h : Rel E s w) (hG : GlobOk E G2 w) : Lib.TabIs Tryz.prog w "internal/strconv.uint64pow10" .u64 Lib.pow10Tab := by
  obtain ⟨vs, h1, h2⟩ := hG.1.1 4 _ rfl
  obtain ⟨_, c, ty, fz, h3, h4⟩ := hG.1.2 4 20 rfl
  have := ints_vals h1
  subst this
  unfold Lib.TabIs World.var?
  rw [show Tryz.prog.globalNamed "internal/strconv.uint64pow10" = some 4 by kernel_rfl]
  simp only [Option.bind_some, h3, Option.some.injEq]
  have hlen : (Lib.pow10Tab.map fun z => Value.int .u64 z).length = 20 := by simp [Lib.pow10Tab]
  apply Array.ext_getElem?
  intro i
  by_cases hi : i < 20
  · have h5 := h.z 4 i _ (h2 i _ (List.getElem?_eq_getElem (by rw [hlen]; exact hi)))
    unfold World.cell? at h5
    simp only [h3] at h5
    rw [show (c[i]? : Option Value) = _ from h5, List.getElem?_toArray, List.getElem?_eq_getElem (by rw [hlen]; exact hi)]
  · rw [Array.getElem?_eq_none (by omega), Array.getElem?_eq_none (by simp only [List.size_toArray]; omega)]
/-! ## Itoa, Atoi -/
def itoaN (n : Int) : List Nat := (Lib.itoa n).map (·.toNat)
def F126 : List AV → Option AV
  | [.int .i64 n] => bif leI 0 n && leI n 999999999 then some (.str (itoaN n)) else none
  | _ => none
theorem k126 : ∀ (args : List AV) (s : St) (E : Env) (w : World) (vs : List Value), Rel E s w → GlobOk E G2 w → VRL E args vs → ResOk Tryz.prog E s w 126 vs (pureX F126 args s) := by
  intro args s E w vs h hG ha
  unfold pureX
  split
  case h_2 => trivial
  rename_i x hx
  unfold F126 at hx
  split at hx
  case h_2 => cases hx
  rename_i n
  cases hc : leI 0 n && leI n 999999999 with
  | false => rw [hc] at hx; cases hx
  | true =>
    rw [hc] at hx
    cases hx
    rw [Bool.and_eq_true, leI_iff, leI_iff, decide_eq_true_iff, decide_eq_true_iff] at hc
    cases ha with
    | cons h1 h2 =>
      cases h1; cases h2
      refine .inl ⟨⟨Tryz.f126, Tryz.func126, rfl, hn 126 _ Tryz.func126⟩, (Tryz.strconv_Itoa n (by omega) (by omega) w (tab_of h hG)).mono fun e w' ⟨he, k, os, hw⟩ => ⟨_, E, he, ?_, ?_⟩⟩
      · subst hw
        exact Step.fresh h (fun b hb => by show (w.heap ++ os)[b]? = _; rw [Array.getElem?_append_left hb]) rfl rfl rfl (by show w.heap.size ≤ (w.heap ++ os).size; rw [Array.size_append]; omega)
      · have := VR.str (E := E) ⟨(Lib.itoa n).toArray⟩
        rwa [show (ByteArray.mk (Lib.itoa n).toArray).data.toList = Lib.itoa n from rfl] at this
def atoiV (l : List Nat) : Option Int := match Lib.atoiAll (l.map UInt8.ofNat) with | .ok v => some v | _ => none
def F59 : List AV → Option AV
  | [.str l] => bif Nat.ble l.length 100 then match atoiV l with | some v => some (.tup [.int .i64 v, .nilifc]) | none => none else none
  | _ => none
theorem bytes_back (l : List UInt8) : (l.map (·.toNat)).map UInt8.ofNat = l := by
  rw [List.map_map]
  conv => rhs; rw [← List.map_id l]
  apply List.map_congr_left
  intro x _
  simp
theorem k59 : ∀ (args : List AV) (s : St) (E : Env) (w : World) (vs : List Value), Rel E s w → GlobOk E G2 w → VRL E args vs → ResOk Tryz.prog E s w 59 vs (pureX F59 args s) := by
  intro args s E w vs h hG ha
  unfold pureX
  split
  case h_2 => trivial
  rename_i x hx
  unfold F59 at hx
  split at hx
  case h_2 => cases hx
  rename_i l
  cases hc : Nat.ble l.length 100 with
  | false => rw [hc] at hx; cases hx
  | true =>
    rw [hc] at hx
    simp only [cond_true] at hx
    split at hx
    case h_2 => cases hx
    rename_i v hv
    cases hx
    cases ha with
    | cons h1 h2 =>
      cases h2
      cases h1 with
      | str sb =>
        unfold atoiV at hv
        rw [bytes_back] at hv
        split at hv
        case h_2 => cases hv
        rename_i v' hv'
        cases hv
        have hl := Nat.le_of_ble_eq_true hc
        simp only [List.length_map, Array.length_toList] at hl
        refine .inl ⟨⟨Tryz.f59, Tryz.func59, rfl, hn 59 _ Tryz.func59⟩, (Tryz.strconv_Atoi_ok sb (by have : sb.size = sb.data.size := rfl; omega) _ hv' w).mono fun e w' ⟨he, hw⟩ => ⟨_, E, he, ?_, .tup (.cons (.int _ _) (.cons .nilifc .nil))⟩⟩
        rcases hw with rfl | ⟨t, rfl⟩
        · exact .refl h
        · exact Step.fresh h (fun b hb => Lib.bytesWorld_at_old w 5 t b hb) rfl rfl rfl (by rw [Lib.bytesWorld_size]; omega)
end Go.Am.Sto
end
section
namespace Go.Am.Sto
open Go Go.Am Go.Proofs
abbrev intA (neg : Bool) (l : List Int) : AV := .agg [.bool neg, .lst (l.map (AV.int .u32)) l.length false l.isEmpty]
def numR (d : Hid) (neg : Bool) (l : List Int) (e : Int) : Option R := some (.tup [intA neg l, .int .i64 e], d)
abbrev W64 (z : Int) : Int := IntKind.u64.wrap z
def limbT (d : Hid) (neg : Bool) (u : Int) : Option R :=
  byB (!leI u 0) (byB (!leI (W64 (u.tdiv 1000000000)) 0) (byB (!leI (W64 ((W64 (u.tdiv 1000000000)).tdiv 1000000000)) 0) none
    (numR d neg [IntKind.u32.wrap (u.tmod 1000000000), IntKind.u32.wrap ((W64 (u.tdiv 1000000000)).tmod 1000000000)] 0)) (numR d neg [IntKind.u32.wrap (u.tmod 1000000000)] 0)) (numR d neg [] 0)
theorem t114 (d : Hid) (z : Int) : bodyY Tryz.prog G2 .none .none 3 12 noLive Res.meth? 3 Tryz.prog.funcs[114]? [.hptr 0, .agg [.int .i64 4, .int .i64 z]] (St.one d) =
    byB (!leI z (-1000000000000000000)) (byB (!leI 1000000000000000000 z) (byB (!leI 0 z) (limbT d (!leI 0 z) (W64 (0 - W64 z))) (limbT d (!leI 0 z) (W64 z))) (numR d false [] 10)) (numR d false [] 10) := by kernel_rfl
def limbs (u : Nat) : List Int := if u = 0 then [] else if u < 1000000000 then [(u : Int)] else [((u % 1000000000 : Nat) : Int), ((u / 1000000000 : Nat) : Int)]
theorem w64 {x : Int} (h0 : 0 ≤ x) (h1 : x < 18446744073709551616) : W64 x = x := by
  have e : IntKind.u64.wrap x = x % 18446744073709551616 := by
    unfold IntKind.wrap
    simp [IntKind.signed, IntKind.bits]
  unfold W64
  rw [e]; omega
theorem w64n {x : Int} (h0 : x < 0) (h1 : -1000000000000000000 < x) : W64 (0 - W64 x) = -x := by
  have e : ∀ x : Int, IntKind.u64.wrap x = x % 18446744073709551616 := fun x => by
    unfold IntKind.wrap
    simp [IntKind.signed, IntKind.bits]
  unfold W64
  rw [e, e]; omega
theorem w32 {x : Int} (h0 : 0 ≤ x) (h1 : x < 4294967296) : IntKind.u32.wrap x = x := by
  have e : IntKind.u32.wrap x = x % 4294967296 := by
    unfold IntKind.wrap
    simp [IntKind.signed, IntKind.bits]
  rw [e]; omega
theorem limbT_eq (d : Hid) (neg : Bool) (u : Nat) (h : u < 1000000000000000000) : limbT d neg (u : Int) = numR d neg (limbs u) 0 := by
  have d1 : (u : Int).tdiv 1000000000 = ((u / 1000000000 : Nat) : Int) := by rw [Int.tdiv_eq_ediv_of_nonneg (by omega)]; omega
  have m1 : (u : Int).tmod 1000000000 = ((u % 1000000000 : Nat) : Int) := by rw [Int.tmod_eq_emod_of_nonneg (by omega)]; omega
  have d2 : ((u / 1000000000 : Nat) : Int).tdiv 1000000000 = ((u / 1000000000 / 1000000000 : Nat) : Int) := by rw [Int.tdiv_eq_ediv_of_nonneg (by omega)]; omega
  have m2 : ((u / 1000000000 : Nat) : Int).tmod 1000000000 = ((u / 1000000000 % 1000000000 : Nat) : Int) := by rw [Int.tmod_eq_emod_of_nonneg (by omega)]; omega
  unfold limbT limbs
  rw [d1, m1, w64 (x := ((u / 1000000000 : Nat) : Int)) (by omega) (by omega), d2, m2, w64 (x := ((u / 1000000000 / 1000000000 : Nat) : Int)) (by omega) (by omega), w32 (by omega) (by omega), w32 (by omega) (by omega)]
  by_cases h0 : u = 0
  · subst h0; rfl
  · rw [leI_f (show (0 : Int) < (u : Int) by omega), if_neg h0]
    by_cases h1 : u < 1000000000
    · rw [if_pos h1, show u / 1000000000 = 0 by omega, show u % 1000000000 = u by omega]; rfl
    · rw [if_neg h1, leI_f (show (0 : Int) < ((u / 1000000000 : Nat) : Int) by omega), show u / 1000000000 / 1000000000 = 0 by omega, show u / 1000000000 % 1000000000 = u / 1000000000 by omega]; rfl
def small (z : Int) : Bool := leI (-999999999999999999) z && leI z 999999999999999999
def F114 (d : Hid) : List AV → Option (Bool × AV × Hid)
  | [.hptr 0, .agg [.int .i64 4, .int .i64 z]] => some (small z, .tup [intA (decide (z < 0)) (limbs z.natAbs), .int .i64 0], d)
  | _ => none
theorem k114 : MethOk Tryz.prog G2 114 F114 := meth_known (D := noLive) (m := 3) (loops := 3) (n := 12) hm hn G2_plain (KnownOk.none _ _) (KnownKOk.none _) fun d ar x d' hF => by
  unfold F114 at hF
  split at hF
  case h_2 => cases hF
  rename_i z
  simp only [Option.some.injEq, Prod.mk.injEq] at hF
  obtain ⟨h1, rfl, rfl⟩ := hF
  unfold small at h1
  rw [Bool.and_eq_true, leI_iff, leI_iff, decide_eq_true_iff, decide_eq_true_iff] at h1
  refine (t114 d z).trans ?_
  rw [leI_f (show (-1000000000000000000 : Int) < z by omega), leI_f (show z < 1000000000000000000 by omega)]
  by_cases hz : 0 ≤ z
  · rw [leI_t hz, w64 hz (by omega), show z = ((z.natAbs : Nat) : Int) by omega]
    refine (limbT_eq d false z.natAbs (by omega)).trans ?_
    rw [decide_eq_false (show ¬ ((z.natAbs : Nat) : Int) < 0 by omega)]; rfl
  · rw [leI_f (show z < 0 by omega), w64n (by omega) (by omega), show -z = ((z.natAbs : Nat) : Int) by omega]
    refine (limbT_eq d true z.natAbs (by omega)).trans ?_
    rw [decide_eq_true (show z < 0 by omega)]; rfl
end Go.Am.Sto
end
