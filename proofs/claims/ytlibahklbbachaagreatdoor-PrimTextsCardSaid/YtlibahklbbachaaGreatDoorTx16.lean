import Derived.Test.YtlibahklbbachaaGreatDoorTx15
import Derived.Test.YtlibahklbbachaaGreatDoorTx11
set_option autoImplicit false
set_option maxRecDepth 100000
set_option linter.unusedSimpArgs false
set_option linter.unusedVariables false
section
namespace Go.Am.Txt
open Go Go.Am Go.Proofs Go.Am.Sto
theorem takeN_self : ∀ C : List AV, takeN C.length C = some C
  | [] => rfl
  | x :: C => by
    show (match takeN C.length C with | some q => some (x :: q) | none => none) = _
    rw [takeN_self C]
theorem cutN_self {C : List AV} {n : Nat} (h : C.length = n) : cutN n 0 C = some C := by
  subst h; exact takeN_self C
theorem cutN_self1 {C : List AV} {n : Nat} (h : C.length = n) : cutN (n * 1) 0 C = some C := by rw [Nat.mul_one]; exact cutN_self h
theorem newest_ok (x n : Nat) : newest x n = true := by unfold newest; exact Nat.beq_refl _
theorem bytesA_unders (b : Nat) : ∀ l : List Nat, AV.unders b (bytesA l) = true
  | [] => rfl
  | _ :: l => bytesA_unders b l
def intsN (l : List Nat) : List AV := l.map fun (c : Nat) => AV.int .i64 (.ofNat c)
theorem intsN_len (l : List Nat) : (intsN l).length = l.length := by simp [intsN]
theorem intsN_plains : ∀ l : List Nat, AV.plains (intsN l) = true
  | [] => rfl
  | _ :: l => intsN_plains l
theorem intsN_flats : ∀ l : List Nat, AV.flats (intsN l) = true
  | [] => rfl
  | _ :: l => intsN_flats l
theorem intsN_unders (b : Nat) : ∀ l : List Nat, AV.unders b (intsN l) = true
  | [] => rfl
  | _ :: l => intsN_unders b l
theorem intsN_app (l m : List Nat) : intsN (l ++ m) = intsN l ++ intsN m := by simp [intsN]
theorem intsN_ne {l : List Nat} (h : l ≠ []) : nonNil (intsN l) = true := by
  cases l with
  | nil => exact absurd rfl h
  | cons => rfl
def outA (acc : List Nat) : AV := match acc with | [] => mt | _ :: r => .sl 0 0 (r.length + 1) 1 false
def stA (ty : Nat) (acc : List Nat) : St := match acc with | [] => St.empty | c :: r => st1 ty (intsN (c :: r))
def lsI (acc : List Nat) : AV := match acc with | [] => mt | c :: r => .lst (intsN (c :: r)) (r.length + 1) false false
theorem outA_snoc (acc : List Nat) (c : Nat) : outA (acc ++ [c]) = .sl 0 0 (acc.length + 1) 1 false := by cases acc <;> simp [outA]
theorem stA_snoc (ty : Nat) (acc : List Nat) (c : Nat) : stA ty (acc ++ [c]) = st1 ty (intsN (acc ++ [c])) := by cases acc <;> rfl
def oneP (cs : List AV) (n : Nat) (z : Int) : Option (Int × Int) := match z with
  | .ofNat i => match oneT scal lnc cs n i with | some (.tup [.int .i64 c, .int .i64 k]) => some (c, k) | _ => none
  | .negSucc _ => none
def g29 (cs : List AV) (n : Nat) (z : Int) : Bool := (oneP cs n z).isSome
def c29 (cs : List AV) (n : Nat) (z : Int) : Int := match oneP cs n z with | some p => p.1 | none => 0
def k29 (cs : List AV) (n : Nat) (z : Int) : Int := match oneP cs n z with | some p => p.2 | none => 0
theorem w29 (H : HT) : WOk Tryz.prog (GU H) 29 (F29v g29 c29 k29) := v_known (D := noLive) (m := 5) (loops := 3) (n := 5) hm hn (GU_plain H) (((KnownOk.none _ _).add (k28 H)).add (k50 H)) (addY (addY (KnownKOk.none _) 28 (wK_le _)) 50 (wK_le _)) fun ar x h => by
  unfold F29v at h
  split at h
  case h_2 => cases h
  rename_i cs n t nl z
  simp only [Option.some.injEq, Prod.mk.injEq] at h
  obtain ⟨hg, rfl⟩ := h
  unfold g29 at hg
  unfold c29 k29
  cases ho : oneP cs n z with
  | none => rw [ho] at hg; cases hg
  | some p =>
    unfold oneP at ho
    split at ho
    case h_2 => cases ho
    rename_i i
    split at ho
    case h_2 => cases ho
    rename_i c k e
    cases ho
    exact (t29 scal bsc lnc H cs n i t nl).trans e
theorem one_at {l : List Nat} {i : Nat} (hl : ∀ b ∈ l, b < 256) (hlen : l.length ≤ 100000) (hi : i < l.length) : g29 (bytesA l) l.length (.ofNat i) = true ∧ (k29 (bytesA l) l.length (.ofNat i) = 0 ∨
    ∃ ch : Nat, c29 (bytesA l) l.length (.ofNat i) = .ofNat ch ∧ okc ch = true ∧ k29 (bytesA l) l.length (.ofNat i) = .ofNat (enc ch).length ∧ ∃ rest, l.drop i = enc ch ++ rest) := by
  obtain ⟨c, k, e, h⟩ := one_ok hl hlen hi
  have ho : oneP (bytesA l) l.length (.ofNat i) = some (c, k) := by
    unfold oneP
    simp only [e]
    rfl
  unfold g29 c29 k29
  rw [ho]
  exact ⟨rfl, h⟩
def Read (l : List Nat) (r : Option AV) : Prop := (∃ a : Nat, r = some (.tup [mt, .int .i64 (.ofNat a)])) ∨ ∃ chs : List Nat, (∀ c ∈ chs, okc c = true) ∧ chs.flatMap enc = l ∧ r = some (.tup [lsI chs, .int .i64 (-1)])
theorem main15 (H : HT) {l : List Nat} (hl : ∀ b ∈ l, b < 256) (hlen : l.length ≤ 100000) (t nl : Bool) : ∀ (N i : Nat) (acc : List Nat), l.length < i + N → i ≤ l.length → acc.length ≤ i → (∀ c ∈ acc, okc c = true) → acc.flatMap enc = l.take i →
    Read l (L15 g29 c29 k29 H Tryz.prog N (t15 (.lst (bytesA l) l.length t nl) (outA acc) (.ofNat i)) (stA 3 acc))
  | 0, i, _, h1, h2, _, _, _ => absurd h1 (by omega)
  | N + 1, i, acc, h1, h2, h3, h4, h5 => by
    rcases Nat.lt_or_ge i l.length with hlt | hge
    · obtain ⟨q1, q2⟩ := one_at hl hlen hlt
      have hb : (!leI (.ofNat l.length) (.ofNat i)) = true := by rw [leI_f (by simp only [Int.ofNat_eq_natCast]; omega)]; rfl
      have hp : AV.plains [.lst (bytesA l) l.length t nl, .int .i64 (.ofNat i)] = true := by
        show (AV.plain (.lst (bytesA l) l.length t nl) && true) = true
        rw [bytesA_plain]; rfl
      have hu : AV.under 0 (.lst (bytesA l) l.length t nl) = true := bytesA_unders 0 l
      -- goes on
      have go : (k29 (bytesA l) l.length (.ofNat i) = 0 → Read l (none15 i)) ∧ ∀ ch : Nat, c29 (bytesA l) l.length (.ofNat i) = .ofNat ch → okc ch = true → k29 (bytesA l) l.length (.ofNat i) = .ofNat (enc ch).length → (∃ rest, l.drop i = enc ch ++ rest) →
          Read l (L15 g29 c29 k29 H Tryz.prog N (t15 (.lst (bytesA l) l.length t nl) (outA (acc ++ [ch])) (W (.ofNat i + k29 (bytesA l) l.length (.ofNat i)))) (stA 3 (acc ++ [ch]))) := by
        refine ⟨fun _ => .inl ⟨i, rfl⟩, fun ch e1 e2 e3 ⟨rest, e4⟩ => ?_⟩
        have hle := congrArg List.length e4
        rw [List.length_drop, List.length_append] at hle
        have hw := enc_le ch
        rw [e3, show W (Int.ofNat i + .ofNat (enc ch).length) = .ofNat (i + (enc ch).length) from wI (n := i + (enc ch).length) (by omega)]
        refine main15 H hl hlen t nl N (i + (enc ch).length) (acc ++ [ch]) (by omega) (by omega) (by simp; omega) (fun c hc => ?_) ?_
        · rcases List.mem_append.1 hc with hc | hc
          · exact h4 c hc
          · simp at hc; subst hc; exact e2
        · rw [List.flatMap_append, h5, List.take_add, e4]; simp
      have pick : ∀ X : Option AV, (∀ ch : Nat, c29 (bytesA l) l.length (.ofNat i) = .ofNat ch → X = L15 g29 c29 k29 H Tryz.prog N (t15 (.lst (bytesA l) l.length t nl) (outA (acc ++ [ch])) (W (.ofNat i + k29 (bytesA l) l.length (.ofNat i)))) (stA 3 (acc ++ [ch]))) →
          Read l (byB (eqI (k29 (bytesA l) l.length (.ofNat i)) 0) (none15 i) X) := fun X hX => by
        rcases q2 with h0 | ⟨ch, e1, e2, e3, e4⟩
        · rw [h0]; exact .inl ⟨i, rfl⟩
        · have hne : eqI (k29 (bytesA l) l.length (.ofNat i)) 0 = false := by
            rw [e3]
            have := (enc_le ch).1
            cases hk : (enc ch).length with
            | zero => omega
            | succ n => rfl
          rw [hne, hX ch e1]
          exact go.2 ch e1 e2 e3 e4
      cases acc with
      | nil =>
        show Read l (L15 g29 c29 k29 H Tryz.prog (N + 1) (t15 (.lst (bytesA l) l.length t nl) mt (.ofNat i)) St.empty)
        rw [step15a, hb, hp, q1, hu]
        exact pick _ fun ch e => by rw [e]; rfl
      | cons a acc =>
        show Read l (L15 g29 c29 k29 H Tryz.prog (N + 1) (t15 (.lst (bytesA l) l.length t nl) (.sl 0 0 (acc.length + 1) 1 false) (.ofNat i)) (st1 3 (intsN (a :: acc))))
        rw [step15b, hb, hp, q1, hu]
        rw [List.length_cons] at h3
        refine pick _ fun ch e => ?_
        rw [Nat.ble_eq_true_of_le (show acc.length + 1 + 1 ≤ 1073741824 by omega), cutN_self1 (by rw [intsN_len]; rfl), outA_snoc, stA_snoc]
        show ifK (newest _ _) _ = _
        rw [newest_ok, e]
        show optK _ (cutN ((acc.length + 1 + 1) * 1) 0 (intsN (a :: acc) ++ intsN [ch])) = _
        rw [← intsN_app, cutN_self1 (by rw [intsN_len]; simp)]
        show ifK (nonNil (intsN (a :: acc ++ [ch])) && AV.plains (intsN (a :: acc ++ [ch]))) _ = _
        rw [intsN_plains, intsN_ne (by simp)]; rfl
    · have hi : i = l.length := by omega
      subst hi
      have hb : (!leI (.ofNat l.length) (.ofNat l.length)) = false := by rw [leI_t (Int.le_refl _)]; rfl
      rw [List.take_length] at h5
      refine .inr ⟨acc, h4, h5, ?_⟩
      cases acc with
      | nil => exact (step15a _ _ _ _ _ _ _ _ _ _).trans (by rw [hb]; rfl)
      | cons a acc =>
        refine (step15b _ _ _ _ _ _ _ acc.length _ _ _ _).trans ?_
        rw [hb, cutN_self1 (by rw [intsN_len]; rfl)]
        show ifK (Nat.blt 0 (acc.length + 1) && AV.flats (intsN (a :: acc))) _ = _
        rw [intsN_flats, show Nat.blt 0 (acc.length + 1) = true from Nat.ble_eq_true_of_le (by omega)]; rfl
theorem read15 (H : HT) {l : List Nat} (hl : ∀ b ∈ l, b < 256) (hlen : l.length < 2000) : Read l (b15 g29 c29 k29 H Tryz.prog (bytesA l) l.length false false) := by
  rw [start15]
  exact main15 H hl (by omega) false false 2000 0 [] (by omega) (by omega) (by simp) (fun _ h => by cases h) rfl
/-! ## Contract -/
section
variable (g : List AV → Nat → Bool) (ls : List AV → Nat → List AV) (ln : List AV → Nat → Nat) (tt nl : List AV → Nat → Bool) (a : List AV → Nat → Int)
def F15v : List AV → Option (Bool × AV)
  | [.lst cs n false false] => some (g cs n, .tup [.lst (ls cs n) (ln cs n) (tt cs n) (nl cs n), .int .i64 (a cs n)])
  | _ => none
end
def P15 (r : Option AV) : Option (List AV × Nat × Bool × Bool × Int) := match r with | some (.tup [.lst l n t nl, .int .i64 a]) => some (l, n, t, nl, a) | _ => none
section
variable (H : HT) (P : Program) (cs : List AV) (n : Nat)
def r15 : Option (List AV × Nat × Bool × Bool × Int) := P15 (b15 g29 c29 k29 H P cs n false false)
def g15 : Bool := (r15 H P cs n).isSome
def ls15 : List AV := match r15 H P cs n with | some p => p.1 | none => []
def ln15 : Nat := match r15 H P cs n with | some p => p.2.1 | none => 0
def tt15 : Bool := match r15 H P cs n with | some p => p.2.2.1 | none => false
def nl15 : Bool := match r15 H P cs n with | some p => p.2.2.2.1 | none => false
def at15 : Int := match r15 H P cs n with | some p => p.2.2.2.2 | none => 0
end
theorem w15 (H : HT) : WOk Tryz.prog (GU H) 15 (F15v (g15 H Tryz.prog) (ls15 H Tryz.prog) (ln15 H Tryz.prog) (tt15 H Tryz.prog) (nl15 H Tryz.prog) (at15 H Tryz.prog)) := v_known (D := D15) (m := 2000) (loops := 3) (n := 5) hm hn (GU_plain H) ((KnownOk.none _ _).add (w29 H)) (addY (KnownKOk.none _) 29 (wK_le _)) fun ar x h => by
  unfold F15v at h
  split at h
  case h_2 => cases h
  rename_i cs n
  simp only [Option.some.injEq, Prod.mk.injEq] at h
  obtain ⟨hg, rfl⟩ := h
  unfold g15 at hg
  unfold ls15 ln15 tt15 nl15 at15
  cases ho : r15 H Tryz.prog cs n with
  | none => rw [ho] at hg; cases hg
  | some p =>
    unfold r15 P15 at ho
    split at ho
    case h_2 => cases ho
    rename_i e
    cases ho
    exact e
theorem chars15 (H : HT) {l : List Nat} (hl : ∀ b ∈ l, b < 256) (hlen : l.length < 2000) : g15 H Tryz.prog (bytesA l) l.length = true ∧ (0 ≤ at15 H Tryz.prog (bytesA l) l.length ∨
    ∃ chs : List Nat, (∀ c ∈ chs, okc c = true) ∧ chs.flatMap enc = l ∧ ln15 H Tryz.prog (bytesA l) l.length = chs.length ∧ at15 H Tryz.prog (bytesA l) l.length = -1) := by
  unfold g15 at15 ln15 r15
  rcases read15 H hl hlen with ⟨a, e⟩ | ⟨chs, h1, h2, e⟩
  · rw [e]
    exact ⟨rfl, .inl (Int.natCast_nonneg a)⟩
  · rw [e]
    cases chs with
    | nil => exact ⟨rfl, .inr ⟨[], h1, h2, rfl, rfl⟩⟩
    | cons c r => exact ⟨rfl, .inr ⟨c :: r, h1, h2, rfl, rfl⟩⟩
end Go.Am.Txt
end
section
namespace Go.Am.Txt
open Go Go.Am Go.Proofs Go.Am.Sto
section
variable (sn : Bool → List AV → Nat → Bool) (hd : Int → Nat) (tl : Int → List Nat) (rp : Int → List Nat)
def F35n : List AV → Option (Bool × AV)
  | [.agg [.bool neg, .lst cs n _ _]] => some (sn neg cs n, .bool true)
  | _ => none
def F126n : List AV → Option (Bool × AV)
  | [.int .i64 n] => some (leI 0 n && leI n 999999999, .str (hd n :: tl n))
  | _ => none
def F128n : List AV → Option (Bool × AV)
  | [.str [48], .int .i64 n] => some (leI 0 n && leI n 8, .str (rp n))
  | _ => none
def rep128K {β : Type} (ar : List AV) (s : St) (kr : Res → Option β) : Option β := bif s.next.beq 3 then wK (F128n rp) ar s kr else none
theorem rep128K_le {β : Type} (ar : List AV) (s : St) (kr kr' : Res → Option β) (h : ∀ r, Le (kr r) (kr' r)) : Le (rep128K rp ar s kr) (kr' (wX (F128n rp) ar s)) := by
  unfold rep128K
  cases s.next.beq 3 with
  | true => exact wK_le _ _ _ _ _ h
  | false => exact .none _
def D60 : Live := fun i => match i with | 0 => .packR [1, 3, 4] 3 2 | 999 => .pack [] | _ => .all
def X60n : Known := ((XN.add 35 (zX (F35n sn))).add 126 (wX (F126n hd tl))).add 128 (wX (F128n rp))
def Y60n {β : Type} : KnownK β := ((KnownK.none.add 35 (zK (F35n sn))).add 126 (wK (F126n hd tl))).add 128 (rep128K rp)
def b60 (H : HT) (P : Program) (neg : Bool) (cs : List AV) (n : Nat) (t nl : Bool) : Option AV := bodyY P (GU H) (X60n sn hd tl rp) (Y60n sn hd tl rp) 3 12 D60 Res.freshV? 100 P.funcs[60]? [.agg [.bool neg, .lst cs n t nl]] St.empty
def L60 (H : HT) (P : Program) (rounds : Nat) : T → St → Option AV := runLoop P (GU H) (X60n sn hd tl rp) (Y60n sn hd tl rp) 3 12 D60 Res.freshV? 100 60 (.packR [1, 3, 4] 3 2) 0 rounds
end
def rowN (r : Nat) (ty : Nat) (vals : List AV) : AObj := .row { vals := vals, root := r, pos := 0, ep := 0, fep := 0, ext := vals.length, solo := true, ty := ty }
def t60 (i : Int) : T := tOf 45 [(1, .ptr 0 0), (3, .ptr 1 0), (4, .int .i64 i)]
section
variable (neg : Bool) (l : AV)
def s60a : St := ⟨2, (Tr.nil.set 0 (rowN 0 47 [.bool neg, l])).set 1 (rowN 1 174 [.nilp, mt])⟩
def s60b (k : Nat) (C : List AV) : St := ⟨3, ((Tr.nil.set 0 (rowN 0 47 [.bool neg, l])).set 1 (rowN 1 174 [.ptr 1 0, .sl 2 0 (k + 1) 1 false])).set 2 (.row (rowB 2 5 C))⟩
def lo60 : Bool := AV.unders 2 [.bool neg, l] && true
end
abbrev BIG : Nat := 1073741824
def bt (l : List Nat) : List AV := bytesA (l.take l.length)
section
variable {β : Type} (lo : Bool) (j : Nat) (C : List AV) (p s : List Nat) (fin : List AV → Option β)
def last60 (fin : List AV → Option β) (v : List AV) : Option β := ifK (nonNil v && AV.plains v) (fin v)
def putB : Option β := ifK (Nat.ble (j + 1 + s.length) BIG) (ifK ((bt s).all AV.single) (optK (fun old => ifK lo (ifK (newest C.length ((j + 1) * 1)) (optK (last60 fin) (cutN ((j + 1 + s.length) * 1) 0 (old ++ bt s))))) (cutN ((j + 1) * 1) 0 C)))
def fam1 : Nat := bif Nat.ble (1 + C.length) (1 + 0 + (j + 1) * 1) then 0 else 0 + 1
def ext1 : Nat := bif Nat.ble (1 + C.length) (1 + 0 + (j + 1) * 1 + p.length * 1) then 1 + 0 + (j + 1) * 1 + p.length * 1 else 1 + C.length
def fam2 : Nat := bif Nat.ble (ext1 j C p) (1 + 0 + 0 + (j + 1 + p.length) * 1) then fam1 j C else fam1 j C + 1
def putC2 (fin2 : List AV → Option β) : Option β := ifK (Nat.ble (j + 1 + p.length) BIG) (ifK ((bt p).all AV.single) (byB (p.length.beq 0) (putB lo j C s fin) (optK (fun old =>
  ifK (Nat.ble (j + 1 + p.length + s.length) BIG) (ifK ((bt s).all AV.single) (ifK ((fam1 j C).beq (fam1 j C)) (optK (fun old2 => ifK lo (ifK ((fam2 j C p).beq (fam2 j C p)) (optK (last60 fin2) (cutN ((j + 1 + p.length + s.length) * 1) 0 (old2 ++ bt s)))))
    (cutN ((j + 1 + p.length) * 1) 0 (old ++ bt p)))))) (cutN ((j + 1) * 1) 0 C))))
end
section
variable (sn : Bool → List AV → Nat → Bool) (hd : Int → Nat) (tl : Int → List Nat) (rp : Int → List Nat)
variable (H : HT) (c : AV) (cs : List AV) (n i j M : Nat) (t nl neg : Bool) (C : List AV)
abbrev limbR (x : Int) (y : Option AV) : Option AV := ifK (leI 0 (W x) && leI (W x) 999999999) y
def pad (x : Int) : Int := W (9 - .ofNat (hd (W x) :: tl (W x)).length)
theorem step60a : L60 sn hd tl rp H Tryz.prog (M + 1) (t60 (.ofNat i)) (s60a neg (.lst cs n t nl)) =
    ifK (Nat.blt i n && nonNil cs) (opt1 .u32 (fun x => limbR x (byB (!leI (W (.ofNat n - 1)) (.ofNat i)) none
      (ifK (Nat.ble (0 + (hd (W x) :: tl (W x)).length) BIG) (ifK ((bt (hd (W x) :: tl (W x))).all AV.single) (ifK (lo60 neg (.lst cs n t nl)) (optK (last60 fun v => L60 sn hd tl rp H Tryz.prog M (t60 (W (.ofNat i - 1))) (s60b neg (.lst cs n t nl) (0 + (tl (W x)).length) v))
        (cutN ((0 + (hd (W x) :: tl (W x)).length) * 1) 0 ([] ++ bt (hd (W x) :: tl (W x)))))))))) (cs[i * 1]?)) := by kernel_rfl
theorem step60b : L60 sn hd tl rp H Tryz.prog (M + 1) (t60 (.ofNat i)) (s60b neg (.lst cs n t nl) j C) =
    ifK (Nat.blt i n && nonNil cs) (opt1 .u32 (fun x => limbR x (byB (!leI (W (.ofNat n - 1)) (.ofNat i))
      (ifK (leI 0 (pad hd tl x) && leI (pad hd tl x) 8) (putC2 (lo60 neg (.lst cs n t nl)) j C (rp (pad hd tl x)) (hd (W x) :: tl (W x))
        (fun v => L60 sn hd tl rp H Tryz.prog M (t60 (W (.ofNat i - 1))) (s60b neg (.lst cs n t nl) (j + 1 + (tl (W x)).length) v))
        (fun v => L60 sn hd tl rp H Tryz.prog M (t60 (W (.ofNat i - 1))) (s60b neg (.lst cs n t nl) (j + 1 + (rp (pad hd tl x)).length + (tl (W x)).length) v))))
      (putB (lo60 neg (.lst cs n t nl)) j C (hd (W x) :: tl (W x)) fun v => L60 sn hd tl rp H Tryz.prog M (t60 (W (.ofNat i - 1))) (s60b neg (.lst cs n t nl) (j + 1 + (tl (W x)).length) v)))) (cs[i * 1]?)) := by kernel_rfl
end
end Go.Am.Txt
end
section
namespace Go.Am.Txt
open Go Go.Am Go.Proofs Go.Am.Sto
def s60c (neg : Bool) (l : AV) : St := ⟨4, (((Tr.nil.set 0 (rowN 0 47 [.bool neg, l])).set 1 (rowN 1 174 [.ptr 1 0, .sl 3 0 1 1 false])).set 2 (rowN 2 5 [u8 45])).set 3 (rowN 3 5 [u8 45])⟩
section
variable (sn : Bool → List AV → Nat → Bool) (hd : Int → Nat) (tl : Int → List Nat) (rp : Int → List Nat)
variable (H : HT) (c : AV) (cs : List AV) (n i j M : Nat) (t nl neg : Bool) (C : List AV)
theorem start60n : b60 sn hd tl rp H Tryz.prog neg [] 0 t nl = ifK (AV.plain (.lst [] 0 t nl)) (ifK (sn neg [] 0) (some (.str [48]))) := by kernel_rfl
theorem start60a : b60 sn hd tl rp H Tryz.prog false (c :: cs) (n + 1) t nl = ifK (AV.plain (.agg [.bool false, .lst (c :: cs) (n + 1) t nl])) (ifK (sn false (c :: cs) (n + 1)) (L60 sn hd tl rp H Tryz.prog 100 (t60 (W (.ofNat (n + 1) - 1))) (s60a false (.lst (c :: cs) (n + 1) t nl)))) := by kernel_rfl
theorem start60c : b60 sn hd tl rp H Tryz.prog true (c :: cs) (n + 1) t nl = ifK (AV.plain (.agg [.bool true, .lst (c :: cs) (n + 1) t nl])) (ifK (sn true (c :: cs) (n + 1)) (L60 sn hd tl rp H Tryz.prog 100 (t60 (W (.ofNat (n + 1) - 1))) (s60c true (.lst (c :: cs) (n + 1) t nl)))) := by kernel_rfl
theorem step60c : L60 sn hd tl rp H Tryz.prog (M + 1) (t60 (.ofNat i)) (s60c neg (.lst cs n t nl)) =
    ifK (Nat.blt i n && nonNil cs) (opt1 .u32 (fun x => limbR x (byB (!leI (W (.ofNat n - 1)) (.ofNat i)) none
      (ifK (Nat.ble (1 + (hd (W x) :: tl (W x)).length) BIG) (ifK ((bt (hd (W x) :: tl (W x))).all AV.single) (ifK (lo60 neg (.lst cs n t nl)) (optK (last60 fun v => L60 sn hd tl rp H Tryz.prog M (t60 (W (.ofNat i - 1))) (s60b neg (.lst cs n t nl) (1 + (tl (W x)).length) v))
        (cutN ((1 + (hd (W x) :: tl (W x)).length) * 1) 0 ([u8 45] ++ bt (hd (W x) :: tl (W x)))))))))) (cs[i * 1]?)) := by kernel_rfl
theorem end60 : L60 sn hd tl rp H Tryz.prog (M + 1) (t60 (-1)) (s60b neg (.lst cs n t nl) j C) = ifK (AV.same (.sl 2 0 (j + 1) 1 false) (.sl 2 0 (j + 1) 1 false) && true) (ifK (Nat.ble (j + 1) 9223372036854775807) (optK (fun cs => optK (fun r => some (.str r)) (bytesOf cs)) (cutN (j + 1) 0 C))) := by kernel_rfl
end
end Go.Am.Txt
end
section
namespace Go.Am.Txt
open Go Go.Am Go.Proofs Go.Am.Sto
section
variable (g : List AV → Nat → Bool) (c k : List AV → Nat)
def D55 : Live := fun i => match i with | 0 => .pack [0, 2, 3] | _ => .all
def X55 : Known := Known.none.add 120 (wX (FRv g c k))
def Y55 {β : Type} : KnownK β := KnownK.none.add 120 (wK (FRv g c k))
def b55 (H : HT) (P : Program) (cs : List AV) (n : Nat) (t nl : Bool) : Option AV := bodyY P (GU H) (X55 g c k) (Y55 g c k) 3 5 D55 Res.freshV? 2000 P.funcs[55]? [.lst cs n t nl] St.empty
def L55 (H : HT) (P : Program) (rounds : Nat) : T → St → Option AV := runLoop P (GU H) (X55 g c k) (Y55 g c k) 3 5 D55 Res.freshV? 2000 55 (.pack [0, 2, 3]) 0 rounds
def t55 (l out : AV) (i : Int) : T := tOf 37 [(0, l), (2, out), (3, .int .i64 i)]
def from_ (cs : List AV) (n i : Nat) : List AV := (cs.drop (i * 1)).take ((n - i) * 1)
abbrev three (l : AV) (a e : Int) : Option AV := some (.tup [l, .int .i64 a, .int .i64 e])
def real (c k : Nat) (i : Nat) (X : Option AV) : Option AV := byB (eqI (.ofNat c) 65533) (byB (!leI 2 (.ofNat k)) (three mt (.ofNat i) 4) X) X
variable (H : HT) (cs : List AV) (n i j M : Nat) (t nl : Bool) (C : List AV)
theorem start55 : b55 g c k H Tryz.prog cs n t nl = byB (!leI (.ofNat n) 65536) (three mt 0 6) (L55 g c k H Tryz.prog 2000 (t55 (.lst cs n t nl) mt 0) St.empty) := by kernel_rfl
theorem step55a : L55 g c k H Tryz.prog (M + 1) (t55 (.lst cs n t nl) mt (.ofNat i)) St.empty = byB (!leI (.ofNat n) (.ofNat i))
    (ifK (Nat.ble i n && Nat.ble n n) (ifK (AV.plains [.lst (from_ cs n i) (n - i) (t && Nat.beq n n) nl]) (ifK (g (from_ cs n i) (n - i)) (real (c (from_ cs n i)) (k (from_ cs n i)) i
      (ifK (AV.under 0 (.lst cs n t nl)) (L55 g c k H Tryz.prog M (t55 (.lst cs n t nl) (.sl 0 0 1 1 false) (W (.ofNat i + .ofNat (k (from_ cs n i))))) (st1 3 [.int .i64 (W (.ofNat (c (from_ cs n i))))])))))))
    (three mt 0 0) := by kernel_rfl
theorem step55b : L55 g c k H Tryz.prog (M + 1) (t55 (.lst cs n t nl) (.sl 0 0 (j + 1) 1 false) (.ofNat i)) (st1 3 C) = byB (!leI (.ofNat n) (.ofNat i))
    (ifK (Nat.ble i n && Nat.ble n n) (ifK (AV.plains [.lst (from_ cs n i) (n - i) (t && Nat.beq n n) nl]) (ifK (g (from_ cs n i) (n - i)) (real (c (from_ cs n i)) (k (from_ cs n i)) i
      (ifK (Nat.ble (j + 1 + 1) 1073741824) (optK (fun old => ifK (AV.under 0 (.lst cs n t nl)) (ifK (newest C.length ((j + 1) * 1)) (optK (fun v => ifK (nonNil v && AV.plains v)
        (L55 g c k H Tryz.prog M (t55 (.lst cs n t nl) (.sl 0 0 (j + 1 + 1) 1 false) (W (.ofNat i + .ofNat (k (from_ cs n i))))) (st1 3 v))) (cutN ((j + 1 + 1) * 1) 0 (old ++ [.int .i64 (W (.ofNat (c (from_ cs n i))))])))))
        (cutN ((j + 1) * 1) 0 C)))))))
    (optK (fun v => ifK (Nat.blt 0 (j + 1) && AV.flats v) (three (.lst v (j + 1) false false) 0 0)) (cutN ((j + 1) * 1) 0 C)) := by
  kernel_rfl
end
end Go.Am.Txt
end
section
namespace Go.Am.Txt
open Go Go.Am Go.Proofs Go.Am.Sto
theorem from_ok (l : List Nat) (i : Nat) : from_ (bytesA l) l.length i = bytesA (l.drop i) ∧ l.length - i = (l.drop i).length := by
  refine ⟨?_, (List.length_drop).symm⟩
  unfold from_ bytesA
  rw [Nat.mul_one, Nat.mul_one, ← List.map_drop, List.take_of_length_le (by simp)]
theorem real_ok {c : Nat} (i : Nat) (X : Option AV) : real c (enc c).length i X = X := by
  unfold real
  cases h : eqI (.ofNat c) 65533 with
  | false => rfl
  | true =>
    have hc : c = 65533 := Nat.eq_of_beq_eq_true h
    subst hc
    rfl
def decF : Nat → List Nat → List Nat
  | 0, _ => []
  | _ + 1, [] => []
  | f + 1, a :: l => dec1 (a :: l) :: decF f ((a :: l).drop (enc (dec1 (a :: l))).length)
theorem decF_enc : ∀ (chs : List Nat) (f : Nat), (∀ c ∈ chs, okc c = true) → chs.length ≤ f → decF f (chs.flatMap enc) = chs
  | [], f, _, _ => by cases f <;> rfl
  | c :: chs, 0, _, h => by simp at h
  | c :: chs, f + 1, h, hf => by
    have hc := h c (by simp)
    have e : (c :: chs).flatMap enc = enc c ++ chs.flatMap enc := by simp
    rw [e]
    have hd := dec1_enc (okc_le hc) (chs.flatMap enc)
    have key : ∀ l : List Nat, l ≠ [] → decF (f + 1) l = dec1 l :: decF f (l.drop (enc (dec1 l)).length) := fun l hl => by
      cases l with
      | nil => exact absurd rfl hl
      | cons a l => rfl
    rw [key _ (by simp [enc_ne]), hd, List.drop_left, decF_enc chs f (fun x hx => h x (by simp [hx])) (by simpa using hf)]
def chsOf (cs : List AV) : List Nat := decF cs.length (numsOf cs)
def isText (cs : List AV) (n : Nat) : Bool := (bytesOf cs).isSome && (n.beq (numsOf cs).length && (Nat.blt n 2000 && ((chsOf cs).all okc && ((chsOf cs).flatMap enc == numsOf cs))))
theorem flat_lt {chs : List Nat} (h : ∀ c ∈ chs, okc c = true) : ∀ b ∈ chs.flatMap enc, b < 256 := fun b hb => by
  obtain ⟨c, hc, hb⟩ := List.mem_flatMap.1 hb
  exact enc_lt (okc_le (h c hc)) b hb
theorem flat_len : ∀ chs : List Nat, chs.length ≤ (chs.flatMap enc).length
  | [] => Nat.le_refl _
  | c :: chs => by
    have := flat_len chs
    have := (enc_le c).1
    simp only [List.flatMap_cons, List.length_append, List.length_cons]; omega
theorem text_of {chs : List Nat} (h : ∀ c ∈ chs, okc c = true) (hl : (chs.flatMap enc).length < 2000) : isText (bytesA (chs.flatMap enc)) (chs.flatMap enc).length = true ∧ chsOf (bytesA (chs.flatMap enc)) = chs := by
  have hb : bytesOf (bytesA (chs.flatMap enc)) = some (chs.flatMap enc) := bytes_all (flat_lt h)
  have hn : numsOf (bytesA (chs.flatMap enc)) = chs.flatMap enc := by unfold numsOf; rw [hb]
  have hc : chsOf (bytesA (chs.flatMap enc)) = chs := by
    unfold chsOf
    rw [hn]
    exact decF_enc chs _ h (by simpa [bytesA] using flat_len chs)
  refine ⟨?_, hc⟩
  unfold isText
  rw [hb, hn, hc]
  simp only [Option.isSome_some, Bool.true_and, Bool.and_eq_true]
  exact ⟨Nat.beq_refl _, Nat.ble_eq_true_of_le hl, List.all_eq_true.2 h, beq_self_eq_true _⟩
theorem text_is {cs : List AV} {n : Nat} (h : isText cs n = true) : (∀ c ∈ chsOf cs, okc c = true) ∧ cs = bytesA ((chsOf cs).flatMap enc) ∧ n = ((chsOf cs).flatMap enc).length ∧ n < 2000 := by
  unfold isText at h
  simp only [Bool.and_eq_true] at h
  obtain ⟨h1, h2, h3, h4, h5⟩ := h
  cases hb : bytesOf cs with
  | none => rw [hb] at h1; cases h1
  | some l =>
    obtain ⟨e, _⟩ := bytesOf_is hb
    have hn : numsOf cs = l := by unfold numsOf; rw [hb]
    rw [hn] at h2 h5
    have h5 := eq_of_beq h5
    exact ⟨List.all_eq_true.1 h4, by rw [h5]; exact e, by rw [h5]; exact Nat.eq_of_beq_eq_true h2, by simpa using h3⟩
theorem main55 (H : HT) {l : List Nat} (hlen : l.length < 2000) : ∀ (rest acc : List Nat) (N i : Nat), (∀ c ∈ rest, okc c = true) → l.drop i = rest.flatMap enc → i ≤ l.length → acc.length ≤ i → rest.length < N →
    L55 isC chr wid H Tryz.prog N (t55 (.lst (bytesA l) l.length false false) (outA acc) (.ofNat i)) (stA 3 acc) = three (lsI (acc ++ rest)) 0 0
  | _, _, 0, _, _, _, _, _, h => absurd h (by omega)
  | rest, acc, N + 1, i, h1, h2, h3, h4, h5 => by
    cases rest with
    | nil =>
      have hi : i = l.length := by
        have := congrArg List.length h2
        rw [List.length_drop] at this
        simp at this; omega
      subst hi
      have hb : (!leI (.ofNat l.length) (.ofNat l.length)) = false := by rw [leI_t (Int.le_refl _)]; rfl
      rw [List.append_nil]
      cases acc with
      | nil => exact (step55a _ _ _ _ _ _ _ _ _ _).trans (by rw [hb]; rfl)
      | cons a acc =>
        refine (step55b _ _ _ _ _ _ _ acc.length _ _ _ _).trans ?_
        rw [hb, cutN_self1 (by rw [intsN_len]; rfl)]
        show ifK (Nat.blt 0 (acc.length + 1) && AV.flats (intsN (a :: acc))) _ = _
        rw [intsN_flats, show Nat.blt 0 (acc.length + 1) = true from Nat.ble_eq_true_of_le (by omega)]; rfl
    | cons ch rest =>
      have hc := h1 ch (by simp)
      have e4 : l.drop i = enc ch ++ rest.flatMap enc := by rw [h2]; simp
      have hle := congrArg List.length e4
      rw [List.length_drop, List.length_append] at hle
      have hw := enc_le ch
      have hb : (!leI (.ofNat l.length) (.ofNat i)) = true := by rw [leI_f (by simp only [Int.ofNat_eq_natCast]; omega)]; rfl
      have hbl : (Nat.ble i l.length && Nat.ble l.length l.length) = true := by rw [Nat.ble_eq_true_of_le h3, Nat.ble_eq_true_of_le (Nat.le_refl _)]; rfl
      obtain ⟨f1, f2⟩ := from_ok l i
      obtain ⟨g1, g2, g3⟩ := isC_enc hc (r := rest.flatMap enc) (fun b hb => flat_lt (fun c h => h1 c (by simp [h])) b hb)
      rw [← e4] at g1 g2 g3
      have hp : AV.plains [.lst (from_ (bytesA l) l.length i) (l.length - i) (false && Nat.beq l.length l.length) false] = true := by
        rw [f1]
        show (AV.plain (.lst (bytesA _) _ _ _) && true) = true
        rw [bytesA_plain]; rfl
      have hu : AV.under 0 (.lst (bytesA l) l.length false false) = true := bytesA_unders 0 l
      have go := main55 H hlen rest (acc ++ [ch]) N (i + (enc ch).length) (fun c h => h1 c (by simp [h])) (by rw [← List.drop_drop, e4, List.drop_left]) (by omega) (by simp; omega) (by simpa using h5)
      rw [List.append_assoc] at go
      have ew : W (Int.ofNat i + .ofNat (enc ch).length) = .ofNat (i + (enc ch).length) := wI (n := i + (enc ch).length) (by omega)
      have ec : W (.ofNat ch) = .ofNat ch := wI (by have := okc_le hc; omega)
      cases acc with
      | nil =>
        refine (step55a _ _ _ _ _ _ _ _ _ _).trans ?_
        rw [hb, hbl, hp, f1, f2, g1, g2, g3, hu, real_ok, ew, ec]
        exact go
      | cons a acc =>
        refine (step55b _ _ _ _ _ _ _ acc.length _ _ _ _).trans ?_
        rw [List.length_cons] at h4
        rw [hb, hbl, hp, f1, f2, g1, g2, g3, hu, real_ok, ew, ec, Nat.ble_eq_true_of_le (show acc.length + 1 + 1 ≤ 1073741824 by omega), cutN_self1 (by rw [intsN_len]; rfl)]
        show ifK (newest _ _) (optK _ (cutN ((acc.length + 1 + 1) * 1) 0 (intsN (a :: acc) ++ intsN [ch]))) = _
        rw [newest_ok, ← intsN_app, cutN_self1 (by rw [intsN_len]; simp)]
        show ifK (nonNil (intsN (a :: acc ++ [ch])) && AV.plains (intsN (a :: acc ++ [ch]))) _ = _
        rw [outA_snoc, stA_snoc] at go
        rw [intsN_plains, intsN_ne (by simp)]
        exact go
/-! ## Contract -/
section
variable (g : List AV → Nat → Bool) (ls : List AV → List AV) (ln : List AV → Nat) (e : List AV → Bool)
def F55v : List AV → Option (Bool × AV)
  | [.lst cs n false false] => some (g cs n, .tup [.lst (ls cs) (ln cs) (e cs) (e cs), .int .i64 0, .int .i64 0])
  | _ => none
end
def ls55 (cs : List AV) : List AV := intsN (chsOf cs)
def ln55 (cs : List AV) : Nat := (chsOf cs).length
def em55 (cs : List AV) : Bool := (chsOf cs).isEmpty
theorem w55 (H : HT) : WOk Tryz.prog (GU H) 55 (F55v isText ls55 ln55 em55) := v_known (D := D55) (m := 2000) (loops := 3) (n := 5) hm hn (GU_plain H) ((KnownOk.none _ _).add (k120 H)) (addY (KnownKOk.none _) 120 (wK_le _)) fun ar x h => by
  unfold F55v at h
  split at h
  case h_2 => cases h
  rename_i cs n
  simp only [Option.some.injEq, Prod.mk.injEq] at h
  obtain ⟨hg, rfl⟩ := h
  obtain ⟨h1, h2, h3, h4⟩ := text_is hg
  unfold ls55 ln55 em55
  generalize chsOf cs = chs at *
  subst h2 h3
  refine (start55 isC chr wid H (bytesA (chs.flatMap enc)) (chs.flatMap enc).length false false).trans ?_
  rw [leI_t (by simp only [Int.ofNat_eq_natCast]; omega)]
  refine (main55 H h4 chs [] 2000 0 h1 rfl (by omega) (by simp) (by have := flat_len chs; omega)).trans ?_
  cases chs <;> rfl
end Go.Am.Txt
end
