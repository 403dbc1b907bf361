import Derived.Test.YtlibahklbbachaaGreatDoorTx29
import Derived.Test.YtlibahklbbachaaGreatDoorTx28
import Derived.Test.YtlibahklbbachaaGreatDoorTx23
import Derived.Test.YtlibahklbbachaaGreatDoorTx11
import Derived.Test.YtlibahklbbachaaGreatDoorTx21
set_option autoImplicit false
set_option maxRecDepth 100000
set_option linter.unusedSimpArgs false
set_option linter.unusedVariables false
section
namespace Go.Am.Txt
open Go Go.Am Go.Proofs Go.Am.Sto
theorem sam_self (a b : Int) : sam a b a b = true := by unfold sam; rw [eqI_self, eqI_self]; rfl
theorem againV_t (a b : Int) : againV a b = true := by unfold againV; rw [eqI_self, eqI_self]; rfl
def big2 (d : Hid) (a b c e : Int) : Bool := eqI (kindOf d.rows a b) 5 && (eqI (kindOf d.rows c e) 5 && (decide (slotsO d a b = slotsO d c e) && Nat.ble (slotsO d a b).length 90))
def eqvQ (d : Hid) (a b c e : Int) : Bool := bif sam a b c e then true else big2 d a b c e
theorem obj_of {d : Hid} {a b : Int} (h : eqI (kindOf d.rows a b) 5 = true) : ∃ o, objAt d.rows a b = some o ∧ slotsO d a b = o.2 := by
  unfold kindOf at h
  cases ho : objAt d.rows a b with
  | none => rw [ho] at h; cases h
  | some o => exact ⟨o, rfl, by unfold slotsO; rw [ho]⟩
theorem get_of {d : Hid} {a b : Int} {o : Ob} (ho : objAt d.rows a b = some o) {i : Nat} (hi : i < o.2.length) : getO d a b (.ofNat i) = (o.2[i], 0) := by
  show getOf d.rows a b (.ofNat i) = _
  unfold getOf
  rw [ho]
  simp only [List.getElem?_eq_getElem hi]
theorem main115 (d : Hid) (a b c e : Int) (o o2 : Ob) (h1 : objAt d.rows a b = some o) (h2 : objAt d.rows c e = some o2) (hs : o.2 = o2.2) : ∀ (N i : Nat), o.2.length < i + N → i ≤ o.2.length → o.2.length ≤ 100000 →
    L115 Tryz.prog N (tQ (.ofNat o.2.length) (.ofNat i)) (stQ d a b c e) = ret1 d true
  | 0, i, h, h', _ => absurd h (by omega)
  | N + 1, i, h, h', h3 => by
    rw [step115, leN]
    rcases Nat.lt_or_ge i o.2.length with hlt | hge
    · have hb2 : Nat.ble o.2.length i = false := by
        cases hx : Nat.ble o.2.length i with
        | false => rfl
        | true => have := Nat.le_of_ble_eq_true hx; omega
      have hi : IntKind.i64.wrap (Int.ofNat i + 1) = Int.ofNat (i + 1) := wI (n := i + 1) (by omega)
      have e2 : o2.2[i]'(by rw [← hs]; exact hlt) = o.2[i] := by simp only [hs]
      rw [hb2, get_of h1 hlt, get_of h2 (by rw [← hs]; exact hlt), e2, hi]
      show byB (!sam _ _ _ _) _ _ = _
      rw [sam_self]
      exact main115 d a b c e o o2 h1 h2 hs N (i + 1) (by omega) (by omega) h3
    · have : i = o.2.length := by omega
      subst this
      rw [Nat.ble_eq_true_of_le (Nat.le_refl _)]; rfl
def F115v (ev : Hid → Int → Int → Int → Int → Bool) (d : Hid) : List AV → Option (Bool × AV × Hid)
  | [.hptr 0, .agg [.int .i64 a, .int .i64 b], .agg [.int .i64 c, .int .i64 e]] => some (ev d a b c e, .bool true, d)
  | _ => none
theorem k115 : MethOk Tryz.prog (GU H0) 115 (F115v eqvQ) := meth_known (D := D115) (m := 100) (loops := 5) (n := 8) hm hn (GU_plain H0) (kU0 kX1) kY1 fun d ar x d' hF => by
  unfold F115v at hF
  split at hF
  case h_2 => cases hF
  rename_i a b c e
  simp only [Option.some.injEq, Prod.mk.injEq] at hF
  obtain ⟨h, rfl, rfl⟩ := hF
  refine (start115 d a b c e).trans ?_
  unfold eqvQ at h
  cases hs : sam a b c e with
  | true => rfl
  | false =>
    rw [hs] at h
    have h : big2 d a b c e = true := h
    unfold big2 at h
    simp only [Bool.and_eq_true, decide_eq_true_iff] at h
    obtain ⟨p1, p2, p3, p4⟩ := h
    obtain ⟨o, o1, o2⟩ := obj_of p1
    obtain ⟨q, q1, q2⟩ := obj_of p2
    have hle : o.2.length ≤ 90 := by rw [← o2]; exact Nat.le_of_ble_eq_true p4
    have hss : o.2 = q.2 := by rw [← o2, ← q2, p3]
    have l1 : lenOf d.rows a b = .ofNat o.2.length := by unfold lenOf; rw [o1]
    have l2 : lenOf d.rows c e = .ofNat o.2.length := by unfold lenOf; rw [q1, hss]
    rw [p1, p2, l1, l2, againV_t, eqI_self]
    exact main115 d a b c e o q o1 q1 hss 100 0 (by omega) (by omega) (by omega)
theorem main99 (l : List V2) (t t2 nl nl2 : Bool) : ∀ (N i : Nat), l.length < i + N → i ≤ l.length → l.length ≤ 100000 →
    L99 Tryz.prog N (t99 (.lst (cellsA l) l.length t nl) (.lst (cellsA l) l.length t2 nl2) l.length (.ofNat i)) St.empty = some (.bool true)
  | 0, i, h, h', _ => absurd h (by omega)
  | N + 1, i, h1, h2, h3 => by
    rw [step99, leN]
    rcases Nat.lt_or_ge i l.length with hlt | hge
    · obtain ⟨c1, c2⟩ := cells_cut l i _ (List.getElem?_eq_getElem hlt)
      have hb : Nat.blt i l.length = true := Nat.ble_eq_true_of_le hlt
      have hb2 : Nat.ble l.length i = false := by
        cases hx : Nat.ble l.length i with
        | false => rfl
        | true => have := Nat.le_of_ble_eq_true hx; omega
      have hi : IntKind.i64.wrap (Int.ofNat i + 1) = Int.ofNat (i + 1) := wI (n := i + 1) (by omega)
      rw [hb2, c1, c2, hb]
      show byB (!sam (l[i]).1 (l[i]).2 (l[i]).1 (l[i]).2) _ (ifK (AV.unders 0 (cellsA l)) (ifK (AV.unders 0 (cellsA l)) _)) = _
      rw [sam_self, cellsA_unders, hi]
      exact main99 l t t2 nl nl2 N (i + 1) (by omega) (by omega) h3
    · have : i = l.length := by omega
      subst this
      rw [Nat.ble_eq_true_of_le (Nat.le_refl _)]; rfl
def eql (cs cs2 : List AV) (m n : Nat) : Bool := isCells cs m && (isCells cs2 n && (Nat.ble m 4500 && (m.beq n && decide (ofCells cs = ofCells cs2))))
def F99v (g : List AV → List AV → Nat → Nat → Bool) : List AV → Option (Bool × AV)
  | [.lst cs m _ _, .lst cs2 n _ _] => some (g cs cs2 m n, .bool true)
  | _ => none
theorem w99 : WOk Tryz.prog (GU H0) 99 (F99v eql) := v_known (D := D99) (m := 5000) (loops := 5) (n := 8) hm hn (GU_plain H0) (KnownOk.none _ _) (KnownKOk.none _) fun ar x h => by
  unfold F99v at h
  split at h
  case h_2 => cases h
  rename_i cs m t nl cs2 n t2 nl2
  simp only [Option.some.injEq, Prod.mk.injEq] at h
  obtain ⟨h, rfl⟩ := h
  unfold eql at h
  simp only [Bool.and_eq_true, decide_eq_true_iff] at h
  obtain ⟨h1, h2, h3, h4, h5⟩ := h
  obtain ⟨e1, e2⟩ := isCells_eq h1
  obtain ⟨e3, e4⟩ := isCells_eq h2
  have hmn := Nat.eq_of_beq_eq_true h4
  subst hmn
  have hm9 : m ≤ 4500 := Nat.le_of_ble_eq_true h3
  refine (start99 cs cs2 m m t t2 nl nl2).trans ?_
  rw [eqI_self]
  rw [← h5] at e3
  have hcc : cs2 = cs := e3.trans e1.symm
  rw [hcc]
  have := main99 (ofCells cs) t t2 nl nl2 5000 0 (by omega) (by omega) (by omega)
  rw [← e1, e2] at this
  exact this
end Go.Am.Txt
end
section
namespace Go.Am.Txt
open Go Go.Am Go.Proofs Go.Am.Sto
theorem slot_ok {d : Hid} {b i : Int} {x : Nat} (h : (getO d 7 b i).1 = (4, .ofNat x)) (hx : x < LIM) (k : Int → Option R) : slotT d b i k = k (.ofNat x) := by
  unfold LIM at hx
  unfold slotT
  rw [h]
  show byB (!leI 0 (.ofNat x)) _ (byB (leI 1000000000 (.ofNat x)) _ _) = _
  rw [leI_t (show (0 : Int) ≤ .ofNat x by simp only [Int.ofNat_eq_natCast]; omega), leI_f (show Int.ofNat x < 1000000000 by simp only [Int.ofNat_eq_natCast]; omega)]; rfl
theorem u32N_flat : ∀ l : List Nat, AV.flats (u32N l) = true
  | [] => rfl
  | _ :: l => u32N_flat l
theorem u32N_nn {l : List Nat} (h : 0 < l.length) : nonNil (u32N l) = true := by cases l with | nil => cases h | cons => rfl
theorem u32_app (l m : List Nat) : u32N (l ++ m) = u32N l ++ u32N m := List.map_append
theorem num_plains (g : Bool) (ls : List Nat) (n : Nat) (t nl : Bool) : AV.plains [.agg [.bool g, .lst (u32N ls) n t nl]] = true := by
  show ((true && (AV.plains (u32N ls) && true)) && true) = true
  rw [u32N_plains]; rfl
abbrev L114s (P : Program) (N : Nat) : T → St → Option R := L114 sndG sndG sb36 sv36 80 P N
theorem exit114 (d : Hid) (b : Int) (g : Bool) {ls : List Nat} (h : Snd g ls) (hs : smallN g ls = false) (N j : Nat) (hj : j + 1 = ls.length) : L114s Tryz.prog (N + 1) (tN (.ofNat (ls.length + 1)) (.ofNat (j + 1 + 1))) (stN1 d b g j (u32N ls)) = numE g (u32N ls) j d := by
  refine (step114c _ _ _ _ _ _ _ _ _ _ _ _ _).trans ?_
  have hc : cutN ((j + 1) * 1) 0 (u32N ls) = some (u32N ls) := cutN_self1 (by rw [u32N_len, hj])
  have hsn : sndG g (u32N ls) (j + 1) = true := by rw [hj]; exact snd_of h
  have hfin : finN g j (u32N ls) d = numE g (u32N ls) j d := by
    unfold finN
    rw [hc]
    show ifK (Nat.blt 0 (j + 1) && AV.flats (u32N ls)) _ = _
    rw [u32N_flat, show Nat.blt 0 (j + 1) = true from Nat.ble_eq_true_of_le (by omega)]; rfl
  rw [leI_t (show Int.ofNat (ls.length + 1) ≤ .ofNat (j + 1 + 1) by simp only [Int.ofNat_eq_natCast]; omega), hfin, hc]
  show ifK (AV.plains (u32N ls)) (ifK (AV.plains [.agg [.bool g, .lst (u32N ls) (j + 1) false false]]) (ifK (sndG g (u32N ls) (j + 1)) (ifK (AV.plains (u32N ls)) (ifK (AV.plains [.agg [.bool g, .lst (u32N ls) (j + 1) false false]]) (ifK (sndG g (u32N ls) (j + 1))
    (byB (sbN g (limN (u32N ls))) (byB (!leI (svN g (limN (u32N ls))) (-1000000000000000000)) (byB (!leI 1000000000000000000 (svN g (limN (u32N ls)))) (badN d) _) _) _)))))) = _
  rw [u32N_plains, num_plains, hsn, limN_u32]
  unfold smallN at hs
  show byB (sbN g ls) _ _ = _
  cases h1 : sbN g ls with
  | false => rfl
  | true =>
    rw [h1] at hs
    show byB (!leI (svN g ls) (-1000000000000000000)) _ _ = _
    cases h2 : (!leI (svN g ls) (-1000000000000000000)) with
    | false => rfl
    | true =>
      rw [h2] at hs
      have hs : (!leI 1000000000000000000 (svN g ls)) = false := hs
      rw [hs]
theorem main114 (d : Hid) (b : Int) (g : Bool) {ls : List Nat} (h : Snd g ls) (hs : smallN g ls = false) (hget : ∀ i (hi : i < ls.length), (getO d 7 b (.ofNat (i + 1))).1 = (4, .ofNat ls[i])) : ∀ (rem j N : Nat), j + 1 + rem = ls.length → rem < N →
    L114s Tryz.prog N (tN (.ofNat (ls.length + 1)) (.ofNat (j + 1 + 1))) (stN1 d b g j (u32N (ls.take (j + 1)))) = numE g (u32N ls) (ls.length - 1) d
  | 0, j, N, h1, h2 => by
    obtain ⟨N, rfl⟩ : ∃ K, N = K + 1 := ⟨N - 1, by omega⟩
    rw [List.take_of_length_le (by omega)]
    have := exit114 d b g h hs N j (by omega)
    rw [show ls.length - 1 = j by omega]
    exact this
  | rem + 1, j, N, h1, h2 => by
    obtain ⟨N, rfl⟩ : ∃ K, N = K + 1 := ⟨N - 1, by omega⟩
    have hi : j + 1 < ls.length := by omega
    have h65 := h.len
    have hx := h.lt _ (List.getElem_mem hi)
    refine (step114c _ _ _ _ _ _ _ _ _ _ _ _ _).trans ?_
    rw [leI_f (show Int.ofNat (j + 1 + 1) < .ofNat (ls.length + 1) by simp only [Int.ofNat_eq_natCast]; omega), byB_t (c := !false) rfl, slot_ok (hget (j + 1) hi) hx, Nat.ble_eq_true_of_le (show j + 1 + 1 ≤ 1073741824 by omega), cutN_self1 (by rw [u32N_len, List.length_take]; omega)]
    have hc : u32N (ls.take (j + 1)) ++ [.int .u32 (IntKind.u32.wrap (.ofNat ls[j + 1]))] = u32N (ls.take (j + 1 + 1)) := by
      unfold LIM at hx
      rw [w32 (x := .ofNat ls[j + 1]) (by simp only [Int.ofNat_eq_natCast]; omega) (by simp only [Int.ofNat_eq_natCast]; omega), List.take_add_one (i := j + 1), List.getElem?_eq_getElem hi, u32_app]; rfl
    show ifK (newest _ _) (optK _ (cutN ((j + 1 + 1) * 1) 0 (u32N (ls.take (j + 1)) ++ [.int .u32 (IntKind.u32.wrap (.ofNat ls[j + 1]))]))) = _
    rw [newest_ok, hc, cutN_self1 (by rw [u32N_len, List.length_take]; omega)]
    show ifK (nonNil (u32N (ls.take (j + 1 + 1))) && AV.plains (u32N (ls.take (j + 1 + 1)))) _ = _
    rw [u32N_plains, u32N_nn (by rw [List.length_take]; omega), show IntKind.i64.wrap (Int.ofNat (j + 1 + 1) + 1) = .ofNat (j + 1 + 1 + 1) from wI (n := j + 1 + 1 + 1) (by omega)]
    exact main114 d b g h hs hget rem (j + 1) N (by omega) (by omega)
def gO (l : List V2) : Bool := match l with | p :: _ => eqI p.2 1 | [] => false
def lsO (l : List V2) : List Nat := l.tail.map fun p => p.2.toNat
def sgI (g : Bool) : Int := bif g then 1 else 0
theorem gO_big (g : Bool) (ls : List Nat) : gO (bigN (sgI g) ls) = g := by cases g <;> rfl
theorem lsO_big (s : Int) (ls : List Nat) : lsO (bigN s ls) = ls := by
  unfold lsO bigN
  rw [List.tail_cons, List.map_map]
  have : ∀ c ∈ ls, ((fun p : V2 => p.2.toNat) ∘ fun x => ((4 : Int), Int.ofNat x)) c = c := fun c _ => rfl
  rw [List.map_congr_left this, List.map_id']
def bigQ (l : List V2) : Bool := decide (l = bigN (sgI (gO l)) (lsO l)) && (sndG (gO l) (u32N (lsO l)) (lsO l).length && (!smallN (gO l) (lsO l) && Nat.ble 2 (lsO l).length))
def F114b (d : Hid) : List AV → Option (Bool × AV × Hid)
  | [.hptr 0, .agg [.int .i64 7, .int .i64 b]] => some (eqI (kindOf d.rows 7 b) 5 && bigQ (slotsO d 7 b), .tup [.agg [.bool (gO (slotsO d 7 b)), .lst (u32N (lsO (slotsO d 7 b))) (lsO (slotsO d 7 b)).length false false], .int .i64 0], d)
  | _ => none
theorem kX114 : KnownOk Tryz.prog (GU H0) (X114 sndG sndG sb36 sv36) := (((((KnownOk.none _ _).add (zs_of_z (GU_plain H0) k35u fun ar x h => by
    unfold F35n at h
    split at h
    · simp only [Option.some.injEq, Prod.mk.injEq] at h; rw [← h.2]; rfl
    · cases h)).add (zs_of_z (GU_plain H0) k36n fun ar x h => by
    unfold F36n at h
    split at h
    · simp only [Option.some.injEq, Prod.mk.injEq] at h; rw [← h.2]; rfl
    · cases h)).add (u0 k83)).add (u0 k92)).add (u0 k79)
theorem kY114 {β : Type} : KnownKOk (X114 sndG sndG sb36 sv36) (Y114 sndG sndG sb36 sv36 : KnownK β) := addK (addK (addK (addY (addY (KnownKOk.none _) 35 (zsK_le _)) 36 (zsK_le _)) 83 F83) 92 F92) 79 F79
theorem k114b : MethOk Tryz.prog (GU H0) 114 F114b := meth_known (D := D114) (m := 80) (loops := 5) (n := 8) hm hn (GU_plain H0) kX114 kY114 fun d ar x d' hF => by
  unfold F114b at hF
  split at hF
  case h_2 => cases hF
  rename_i b
  simp only [Option.some.injEq, Prod.mk.injEq, Bool.and_eq_true] at hF
  obtain ⟨⟨hk, hq⟩, rfl, rfl⟩ := hF
  obtain ⟨o, ho, hsl⟩ := obj_of hk
  unfold bigQ at hq
  simp only [Bool.and_eq_true, decide_eq_true_iff, Bool.not_eq_true'] at hq
  obtain ⟨q1, q2, q3, q4⟩ := hq
  generalize hg : gO (slotsO d 7 b) = g at *
  generalize hl : lsO (slotsO d 7 b) = ls at *
  have h2 : 2 ≤ ls.length := Nat.le_of_ble_eq_true q4
  obtain ⟨_, _, hS⟩ := snd_is q2
  rw [limN_u32] at hS
  have hos : o.2 = bigN (sgI g) ls := by rw [← hsl, q1]
  have hol : o.2.length = ls.length + 1 := by rw [hos, bigN_len]
  have hg0 : (getO d 7 b 0).1 = (4, sgI g) := by
    have := get_of ho (i := 0) (by omega)
    rw [show (Int.ofNat 0) = (0 : Int) from rfl] at this
    rw [this]
    simp only [hos]; rfl
  have hget : ∀ i (hi : i < ls.length), (getO d 7 b (.ofNat (i + 1))).1 = (4, .ofNat ls[i]) := fun i hi => by
    rw [get_of ho (i := i + 1) (by omega)]
    simp only [hos]
    unfold bigN
    simp
  have hlen : lenOf d.rows 7 b = .ofNat (ls.length + 1) := by unfold lenOf; rw [ho]; show Int.ofNat o.2.length = _; rw [hol]
  refine (start114b _ _ _ _ d 80 b).trans ?_
  rw [hk, hlen, leI_t (show (3 : Int) ≤ .ofNat (ls.length + 1) by simp only [Int.ofNat_eq_natCast]; omega)]
  obtain ⟨m, hm3⟩ : ∃ m, ls.length + 1 = m + 3 := ⟨ls.length - 2, by omega⟩
  show L114s Tryz.prog (79 + 1) (tN (.ofNat (ls.length + 1)) 0) (stN0 d b false) = _
  rw [hm3]
  refine (step114a _ _ _ _ d 80 79 m b).trans ?_
  have hx0 : sgI g = .ofNat (bif g then 1 else 0) := by cases g <;> rfl
  rw [hx0] at hg0
  rw [slot_ok hg0 (by unfold LIM; cases g <;> decide)]
  have e1 : (!leI (.ofNat (bif g then 1 else 0)) 1) = false := by cases g <;> rfl
  have e2 : eqI (.ofNat (bif g then 1 else 0)) 1 = g := by cases g <;> rfl
  rw [e1, e2]
  show L114s Tryz.prog (78 + 1) (tN (.ofNat (m + 3)) 1) (stN0 d b g) = _
  refine (step114b _ _ _ _ d 80 78 m b g).trans ?_
  have hx := hS.lt _ (List.getElem_mem (show 0 < ls.length by omega))
  rw [show (1 : Int) = .ofNat (0 + 1) from rfl, slot_ok (hget 0 (by omega)) hx]
  have hw : IntKind.u32.wrap (.ofNat ls[0]) = .ofNat ls[0] := by
    unfold LIM at hx
    exact w32 (by simp only [Int.ofNat_eq_natCast]; omega) (by simp only [Int.ofNat_eq_natCast]; omega)
  have ht : u32N (ls.take 1) = [.int .u32 (.ofNat ls[0])] := by
    cases ls with
    | nil => simp at h2
    | cons a l => rfl
  rw [hw, ← ht, ← hm3]
  have h64 := hS.len
  have := main114 d b g hS q3 hget (ls.length - 1) 0 78 (by omega) (by omega)
  rw [show (Int.ofNat (0 + 1 + 1)) = 2 from rfl] at this
  refine this.trans ?_
  unfold numE
  rw [show ls.length - 1 + 1 = ls.length by omega]
end Go.Am.Txt
end
section
namespace Go.Am.Txt
open Go Go.Am Go.Proofs Go.Am.Sto
def limZ (u : Nat) : List Nat := (limbs u).map Int.toNat
theorem limZ_0 : limZ 0 = [] := rfl
theorem limZ_1 {u : Nat} (h0 : u ≠ 0) (h1 : u < 1000000000) : limZ u = [u] := by unfold limZ limbs; rw [if_neg h0, if_pos h1]; rfl
theorem limZ_2 {u : Nat} (h1 : ¬ u < 1000000000) : limZ u = [u % 1000000000, u / 1000000000] := by unfold limZ limbs; rw [if_neg (by omega), if_neg h1]; rfl
theorem txt_same (neg : Bool) (u : Nat) : txtA neg ((limbs u).map (AV.int .u32)) = txN neg (limZ u) := by
  by_cases h0 : u = 0
  · subst h0; rfl
  · by_cases h1 : u < 1000000000
    · have hl : limbs u = [(u : Int)] := by unfold limbs; rw [if_neg h0, if_pos h1]
      rw [limZ_1 h0 h1, hl]
      show sg neg ++ itoaN (u : Int) = sg neg ++ itoaN (.ofNat u) ++ []
      rw [List.append_nil]; rfl
    · have hl : limbs u = [((u % 1000000000 : Nat) : Int), ((u / 1000000000 : Nat) : Int)] := by unfold limbs; rw [if_neg h0, if_neg h1]
      rw [limZ_2 h1, hl]
      show sg neg ++ itoaN ((u / 1000000000 : Nat) : Int) ++ List.replicate (9 - (itoaN ((u % 1000000000 : Nat) : Int)).length) 48 ++ itoaN ((u % 1000000000 : Nat) : Int) = sg neg ++ itoaN (.ofNat (u / 1000000000)) ++ (pad9 (u % 1000000000) ++ [])
      rw [List.append_nil]
      unfold pad9
      simp only [List.append_assoc, Int.ofNat_eq_natCast]
theorem small_is {z : Int} (h : small z = true) : -1000000000000000000 < z ∧ z < 1000000000000000000 := by
  unfold small at h
  rw [Bool.and_eq_true, leI_iff, leI_iff, decide_eq_true_iff, decide_eq_true_iff] at h
  omega
theorem small_snd {z : Int} (h : small z = true) : Snd (decide (z < 0)) (limZ z.natAbs) := by
  obtain ⟨h1, h2⟩ := small_is h
  by_cases h0 : z.natAbs = 0
  · have : z = 0 := by omega
    subst this
    exact ⟨by decide, (fun x hx => by cases hx), (fun x hx => by cases hx), fun _ => rfl⟩
  · by_cases h3 : z.natAbs < 1000000000
    · rw [limZ_1 h0 h3]
      exact ⟨by simp, fun x hx => by simp at hx; subst hx; exact h3, fun x hx => by simp at hx; subst hx; exact h0, fun e => by cases e⟩
    · rw [limZ_2 h3]
      refine ⟨by simp, fun x hx => ?_, fun x hx => by simp at hx; omega, fun e => by cases e⟩
      simp at hx
      unfold LIM
      rcases hx with rfl | rfl <;> omega
theorem small_sv {z : Int} (h : small z = true) : smallN (decide (z < 0)) (limZ z.natAbs) = true ∧ svN (decide (z < 0)) (limZ z.natAbs) = z := by
  obtain ⟨h1, h2⟩ := small_is h
  obtain ⟨l1, l2⟩ := limbs_ok h
  obtain ⟨a1, _⟩ := atoiV_txt l1
  rw [l2, txt_same] at a1
  have hat : atE (txN (decide (z < 0)) (limZ z.natAbs)) = .ok z := by
    unfold atoiV at a1
    unfold atE
    split at a1
    · rename_i v hv
      cases a1
      exact hv
    · cases a1
  have hlen : (limZ z.natAbs).length ≤ 3 := by
    by_cases h0 : z.natAbs = 0
    · rw [h0, limZ_0]; simp
    · by_cases h3 : z.natAbs < 1000000000
      · rw [limZ_1 h0 h3]; simp
      · rw [limZ_2 h3]; simp
  have hsb : sbN (decide (z < 0)) (limZ z.natAbs) = true := by
    unfold sbN aok59
    rw [hat, Nat.ble_eq_true_of_le hlen]; rfl
  have hsv : svN (decide (z < 0)) (limZ z.natAbs) = z := by
    unfold svN
    rw [hsb]
    show av59 _ = z
    unfold av59
    rw [hat]
  refine ⟨?_, hsv⟩
  unfold smallN
  rw [hsb, hsv, leI_f (show (-1000000000000000000 : Int) < z by omega), leI_f (show z < 1000000000000000000 by omega)]; rfl
theorem small_len {g : Bool} {ls : List Nat} (h : Snd g ls) (hl : ls.length ≤ 2) : smallN g ls = true := by
  have key : ∀ z : Int, small z = true → decide (z < 0) = g → limZ z.natAbs = ls → smallN g ls = true := fun z hz e1 e2 => by
    have := (small_sv hz).1
    rw [e1, e2] at this
    exact this
  have mk : ∀ u : Nat, u < 1000000000000000000 → u ≠ 0 → limZ u = ls → smallN g ls = true := fun u hu h0 hls => by
    cases g with
    | false => exact key (u : Int) (by unfold small; rw [leI_t (by omega), leI_t (by omega)]; rfl) (decide_eq_false (by omega)) (by rw [Int.natAbs_natCast]; exact hls)
    | true => exact key (-(u : Int)) (by unfold small; rw [leI_t (by omega), leI_t (by omega)]; rfl) (decide_eq_true (by omega)) (by rw [Int.natAbs_neg, Int.natAbs_natCast]; exact hls)
  match ls, h, hl with
  | [], h, _ =>
    have : g = false := h.nn rfl
    subst this
    exact key 0 rfl rfl rfl
  | [a], h, _ =>
    have ha := h.lt a (by simp)
    unfold LIM at ha
    have h0 : a ≠ 0 := h.top a (by simp)
    exact mk a (by omega) h0 (limZ_1 h0 ha)
  | [a, b], h, _ =>
    have ha := h.lt a (by simp)
    have hb := h.lt b (by simp)
    unfold LIM at ha hb
    have h0 : b ≠ 0 := h.top b (by simp)
    refine mk (b * 1000000000 + a) (by omega) (by omega) ?_
    rw [limZ_2 (by omega)]
    congr 1
    · omega
    · congr 1; omega
  | _ :: _ :: _ :: _, _, hl => exact absurd hl (by simp)
end Go.Am.Txt
end
section
namespace Go.Am.Txt
open Go Go.Am Go.Proofs Go.Am.Sto
def F22 : List AV → Option AV
  | [.int .i64 31] => some (.tup [.int .i64 (2), .int .i64 (2)])
  | [.int .i64 32] => some (.tup [.int .i64 (2), .int .i64 (2)])
  | [.int .i64 37] => some (.tup [.int .i64 (1), .int .i64 (1)])
  | [.int .i64 38] => some (.tup [.int .i64 (1), .int .i64 (1)])
  | [.int .i64 40] => some (.tup [.int .i64 (1), .int .i64 (1)])
  | [.int .i64 42] => some (.tup [.int .i64 (0), .int .i64 (-1)])
  | [.int .i64 43] => some (.tup [.int .i64 (2), .int .i64 (2)])
  | [.int .i64 44] => some (.tup [.int .i64 (1), .int .i64 (1)])
  | [.int .i64 45] => some (.tup [.int .i64 (1), .int .i64 (1)])
  | [.int .i64 55] => some (.tup [.int .i64 (1), .int .i64 (1)])
  | [.int .i64 56] => some (.tup [.int .i64 (1), .int .i64 (1)])
  | _ => none
theorem ar31 : bodyK Tryz.prog G0 .none 5 8 noLive Res.val? 3 Tryz.prog.funcs[22]? [.int .i64 31] St.empty = some (.tup [.int .i64 (2), .int .i64 (2)]) := by kernel_rfl
theorem ar32 : bodyK Tryz.prog G0 .none 5 8 noLive Res.val? 3 Tryz.prog.funcs[22]? [.int .i64 32] St.empty = some (.tup [.int .i64 (2), .int .i64 (2)]) := by kernel_rfl
theorem ar37 : bodyK Tryz.prog G0 .none 5 8 noLive Res.val? 3 Tryz.prog.funcs[22]? [.int .i64 37] St.empty = some (.tup [.int .i64 (1), .int .i64 (1)]) := by kernel_rfl
theorem ar38 : bodyK Tryz.prog G0 .none 5 8 noLive Res.val? 3 Tryz.prog.funcs[22]? [.int .i64 38] St.empty = some (.tup [.int .i64 (1), .int .i64 (1)]) := by kernel_rfl
theorem ar40 : bodyK Tryz.prog G0 .none 5 8 noLive Res.val? 3 Tryz.prog.funcs[22]? [.int .i64 40] St.empty = some (.tup [.int .i64 (1), .int .i64 (1)]) := by kernel_rfl
theorem ar42 : bodyK Tryz.prog G0 .none 5 8 noLive Res.val? 3 Tryz.prog.funcs[22]? [.int .i64 42] St.empty = some (.tup [.int .i64 (0), .int .i64 (-1)]) := by kernel_rfl
theorem ar43 : bodyK Tryz.prog G0 .none 5 8 noLive Res.val? 3 Tryz.prog.funcs[22]? [.int .i64 43] St.empty = some (.tup [.int .i64 (2), .int .i64 (2)]) := by kernel_rfl
theorem ar44 : bodyK Tryz.prog G0 .none 5 8 noLive Res.val? 3 Tryz.prog.funcs[22]? [.int .i64 44] St.empty = some (.tup [.int .i64 (1), .int .i64 (1)]) := by kernel_rfl
theorem ar45 : bodyK Tryz.prog G0 .none 5 8 noLive Res.val? 3 Tryz.prog.funcs[22]? [.int .i64 45] St.empty = some (.tup [.int .i64 (1), .int .i64 (1)]) := by kernel_rfl
theorem ar55 : bodyK Tryz.prog G0 .none 5 8 noLive Res.val? 3 Tryz.prog.funcs[22]? [.int .i64 55] St.empty = some (.tup [.int .i64 (1), .int .i64 (1)]) := by kernel_rfl
theorem ar56 : bodyK Tryz.prog G0 .none 5 8 noLive Res.val? 3 Tryz.prog.funcs[22]? [.int .i64 56] St.empty = some (.tup [.int .i64 (1), .int .i64 (1)]) := by kernel_rfl
theorem k22 : OkF G0 22 (pureX F22) := flat_known (D := noLive) (m := 3) (loops := 5) (n := 8) hm hn G0_plain (KnownOk.none _ _) fun ar x hF => by
  unfold F22 at hF
  split at hF
  · cases hF; exact ⟨rfl, rfl, ar31⟩
  · cases hF; exact ⟨rfl, rfl, ar32⟩
  · cases hF; exact ⟨rfl, rfl, ar37⟩
  · cases hF; exact ⟨rfl, rfl, ar38⟩
  · cases hF; exact ⟨rfl, rfl, ar40⟩
  · cases hF; exact ⟨rfl, rfl, ar42⟩
  · cases hF; exact ⟨rfl, rfl, ar43⟩
  · cases hF; exact ⟨rfl, rfl, ar44⟩
  · cases hF; exact ⟨rfl, rfl, ar45⟩
  · cases hF; exact ⟨rfl, rfl, ar55⟩
  · cases hF; exact ⟨rfl, rfl, ar56⟩
  · cases hF
end Go.Am.Txt
end
