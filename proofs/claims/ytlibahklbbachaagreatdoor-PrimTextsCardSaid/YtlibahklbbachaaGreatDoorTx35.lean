import Derived.Test.YtlibahklbbachaaGreatDoorTx18
import Derived.Test.YtlibahklbbachaaGreatDoorTx34
import Derived.Test.YtlibahklbbachaaGreatDoorTx23
import Derived.Test.YtlibahklbbachaaGreatDoorTx33
set_option autoImplicit false
set_option maxRecDepth 100000
set_option linter.unusedSimpArgs false
set_option linter.unusedVariables false
section
namespace Go.Am.Txt
open Go Go.Am Go.Proofs Go.Am.Sto
section
variable (sc : Int → Bool)
abbrev mtF : AV := .lst [] 0 false true
def b144z (H : HT) (P : Program) (cs : List AV) (n : Nat) (t nl : Bool) : Option AV := bodyY P (GU H) (X144 sc) (Y144 sc) 3 5 D144 Res.freshZ? 5000 P.funcs[144]? [.lst cs n t nl] St.empty
def L144z (H : HT) (P : Program) (rounds : Nat) : T → St → Option AV := runLoop P (GU H) (X144 sc) (Y144 sc) 3 5 D144 Res.freshZ? 5000 144 (.pack [4, 7, 8, 9]) 0 rounds
variable (H : HT) (cs : List AV) (n i j M : Nat) (t nl : Bool) (C : List AV)
theorem start144z : b144z sc H Tryz.prog cs n t nl = L144z sc H Tryz.prog 5000 (t144 mt (.lst cs n t nl) n 0) St.empty := by kernel_rfl
theorem step144za : L144z sc H Tryz.prog (M + 1) (t144 mt (.lst cs n t nl) n (.ofNat i)) St.empty = byB (!leI (.ofNat n) (.ofNat i))
    (ifK (Nat.blt i n && nonNil cs) (opt1 .i64 (fun c => byB (sc c) (encT c fun bs k => ifK (AV.under 0 (.lst cs n t nl)) (L144z sc H Tryz.prog M (t144 (.sl 0 0 k 1 false) (.lst cs n t nl) n (W (.ofNat i + 1))) (st1 5 bs))) (end2 mtF 1)) (cs[i * 1]?)))
    (end2 mtF 0) := by kernel_rfl
theorem step144zb : L144z sc H Tryz.prog (M + 1) (t144 (.sl 0 0 (j + 1) 1 false) (.lst cs n t nl) n (.ofNat i)) (st1 5 C) = byB (!leI (.ofNat n) (.ofNat i))
    (ifK (Nat.blt i n && nonNil cs) (opt1 .i64 (fun c => byB (sc c) (encT c fun bs k => ifK (Nat.ble (j + 1 + k) 1073741824) (optK (fun old => ifK (newest C.length ((j + 1) * 1)) (optK (fun v => ifK (nonNil v && AV.plains v) (ifK (AV.under 0 (.lst cs n t nl))
      (L144z sc H Tryz.prog M (t144 (.sl 0 0 (j + 1 + k) 1 false) (.lst cs n t nl) n (W (.ofNat i + 1))) (st1 5 v)))) (cutN ((j + 1 + k) * 1) 0 (old ++ bs)))) (cutN ((j + 1) * 1) 0 C))) (end2 mtF 1)) (cs[i * 1]?)))
    (optK (fun v => ifK (Nat.blt 0 (j + 1) && AV.flats v) (end2 (.lst v (j + 1) false false) 0)) (cutN ((j + 1) * 1) 0 C)) := by kernel_rfl
end
end Go.Am.Txt
end
section
namespace Go.Am.Txt
open Go Go.Am Go.Proofs Go.Am.Sto
def lsBz (l : List Nat) : AV := match l with | [] => mtF | b :: r => .lst (bytesA (b :: r)) (r.length + 1) false false
theorem main144z (H : HT) {l : List Nat} (hlen : l.length < 5000) (t nl : Bool) (hok : ∀ c ∈ l, okc c = true) : ∀ (N i : Nat) (bs : List Nat), bs = (l.take i).flatMap enc → l.length < i + N → i ≤ l.length →
    L144z scal H Tryz.prog N (t144 (outB bs) (.lst (intsN l) l.length t nl) l.length (.ofNat i)) (stB bs) = end2 (lsBz (l.flatMap enc)) 0
  | 0, i, _, _, h1, h2 => absurd h1 (by omega)
  | N + 1, i, bs, hbs, h1, h2 => by
    rcases Nat.lt_or_ge i l.length with hlt | hge
    · obtain ⟨c, hc⟩ : ∃ c, l[i]? = some c := ⟨_, List.getElem?_eq_getElem hlt⟩
      have hoc := hok c (List.mem_of_getElem? hc)
      have hb : (!leI (.ofNat l.length) (.ofNat i)) = true := by rw [leI_f (by simp only [Int.ofNat_eq_natCast]; omega)]; rfl
      have hu : AV.under 0 (.lst (intsN l) l.length t nl) = true := intsN_unders 0 l
      have hne : nonNil (intsN l) = true := intsN_ne fun e => by rw [e] at hlt; cases hlt
      have hbl : (Nat.blt i l.length && nonNil (intsN l)) = true := by rw [hne, show Nat.blt i l.length = true from Nat.ble_eq_true_of_le hlt]; rfl
      have ew : W (Int.ofNat i + 1) = .ofNat (i + 1) := wI (n := i + 1) (by omega)
      have go := main144z H hlen t nl hok N (i + 1) (bs ++ enc c) (by rw [hbs, List.take_add_one, hc]; simp) (by omega) (by omega)
      rw [outB_app, stB_app] at go
      have hlb : bs.length ≤ 4 * i := by
        rw [hbs]
        have : ∀ m : List Nat, (m.flatMap enc).length ≤ 4 * m.length := fun m => by
          induction m with
          | nil => simp
          | cons a m ih => simp only [List.flatMap_cons, List.length_append, List.length_cons]; have := (enc_le a).2; omega
        refine Nat.le_trans (this _) ?_
        rw [List.length_take]; omega
      have hw := enc_le c
      cases bs with
      | nil =>
        refine (step144za _ _ _ _ _ _ _ _).trans ?_
        rw [hb, hbl, ints_get, hc]
        show byB (scal (.ofNat c)) (encT (.ofNat c) _) _ = _
        rw [okc_scal hoc, encT_ok hoc, hu, ew]
        rw [List.length_nil, Nat.zero_add] at go
        exact go
      | cons b r =>
        refine (step144zb _ _ _ _ _ r.length _ _ _ _).trans ?_
        rw [hb, hbl, ints_get, hc]
        show byB (scal (.ofNat c)) (encT (.ofNat c) _) _ = _
        rw [List.length_cons] at hlb
        rw [okc_scal hoc, encT_ok hoc, hu, ew, Nat.ble_eq_true_of_le (show r.length + 1 + (enc c).length ≤ 1073741824 by omega), cutN_self1 (by rw [bytesA_len]; rfl)]
        show ifK (newest _ _) (optK _ (cutN ((r.length + 1 + (enc c).length) * 1) 0 (bytesA (b :: r) ++ bytesA (enc c)))) = _
        rw [newest_ok, ← bytes_app, cutN_self1 (by rw [bytesA_len, List.length_append]; rfl)]
        show ifK (nonNil (bytesA (b :: r ++ enc c)) && AV.plains (bytesA (b :: r ++ enc c))) _ = _
        rw [bytesA_plains, bytesA_ne (by simp)]
        exact go
    · have hi : i = l.length := by omega
      subst hi
      have hb : (!leI (.ofNat l.length) (.ofNat l.length)) = false := by rw [leI_t (Int.le_refl _)]; rfl
      rw [List.take_length] at hbs
      rw [← hbs]
      cases bs with
      | nil => exact (step144za _ _ _ _ _ _ _ _).trans (by rw [hb]; rfl)
      | cons b r =>
        refine (step144zb _ _ _ _ _ r.length _ _ _ _).trans ?_
        rw [hb, cutN_self1 (by rw [bytesA_len]; rfl)]
        show ifK (Nat.blt 0 (r.length + 1) && AV.flats (bytesA (b :: r))) _ = _
        rw [bytesA_flats, show Nat.blt 0 (r.length + 1) = true from Nat.ble_eq_true_of_le (by omega)]; rfl
section
variable (g : List AV → Nat → Bool) (bs : List AV → List AV) (ln : List AV → Nat) (e : List AV → Bool)
def F144z : List AV → Option (Bool × AV)
  | [.lst cs n _ _] => some (g cs n, .tup [.lst (bs cs) (ln cs) false (e cs), .int .i64 0])
  | _ => none
end
theorem z144 (H : HT) : ZOk Tryz.prog (GU H) 144 (F144z isChs bs144 ln144 em144) := zv_known (D := D144) (m := 5000) (loops := 3) (n := 5) hm hn (GU_plain H) ((KnownOk.none _ _).add (k42 H)) (addY (KnownKOk.none _) 42 (wK_le _)) fun ar x h => by
  unfold F144z at h
  split at h
  case h_2 => cases h
  rename_i cs n t nl
  simp only [Option.some.injEq, Prod.mk.injEq] at h
  obtain ⟨hg, rfl⟩ := h
  obtain ⟨h1, h2, h3, h4⟩ := chs_is hg
  unfold bs144 ln144 em144
  generalize nats cs = l at *
  subst h2 h3
  refine (start144z scal H (intsN l) l.length t nl).trans ?_
  refine (main144z H h4 t nl h1 5000 0 [] rfl (by omega) (by omega)).trans ?_
  cases l.flatMap enc <;> rfl
end Go.Am.Txt
end
section
namespace Go.Am.Txt
open Go Go.Am Go.Proofs Go.Am.Sto
section
variable (g : List AV → Nat → Bool) (bs : List AV → List AV) (ln : List AV → Nat) (e : List AV → Bool)
def X96 : Known := (((Known.none.add 83 (methX F83)).add 93 (methX F93)).add 41 (wX F41c)).add 144 (zX (F144z g bs ln e))
def Y96 {β : Type} : KnownK β := (((KnownK.none.add 83 (methK F83)).add 93 (methK F93)).add 41 (wK F41c)).add 144 (zK (F144z g bs ln e))
def D96 : Live := fun i => match i with | 0 => .pack [5, 12, 13, 14] | _ => .all
def L96 (P : Program) (rounds : Nat) : T → St → Option R := runLoop P (GU H0) (X96 g bs ln e) (Y96 g bs ln e) 5 8 D96 Res.meth? 5000 96 (.pack [5, 12, 13, 14]) 2 rounds
def b96 (P : Program) (d : Hid) (u : AV) (i : Int) : Option R := bodyY P (GU H0) (X96 g bs ln e) (Y96 g bs ln e) 5 8 D96 Res.meth? 5000 P.funcs[96]? [.ptrL [.hptr 0, u] 0, .int .i64 i] (St.one d)
def t96 (out l : AV) (n i : Int) : T := tOf 31 [(5, out), (12, l), (13, .int .i64 n), (14, .int .i64 i)]
def stI (d : Hid) (t n : Int) (C : List AV) : St := ⟨3, ((Tr.nil.set 0 (.hid d)).set 1 (.row (rowE t n))).set 2 (.row (rowB 2 3 C))⟩
variable (d : Hid) (a b : Int) (tt nl : Bool) (M : Nat) (cs : List AV) (n i j : Nat) (C : List AV)
theorem start96 : b96 g bs ln e Tryz.prog d (.lst (c1A a b) 1 tt false) 0 = strK d a b none (L96 g bs ln e Tryz.prog 5000 (t96 mt (lstA (slotsO d a b)) (slotsO d a b).length 0) (stE0 d a b)) := by kernel_rfl
abbrev tex96 (cs : List AV) (k : Nat) : Option R := ifK (g cs k) (optK (fun v => optK (fun t => some (.str t, d)) (bytesOf v)) (cutN (ln cs * 1) 0 (bs cs)))
theorem step96a : L96 g bs ln e Tryz.prog (M + 1) (t96 mt (.lst cs n tt nl) n (.ofNat i)) (stE0 d a b) = byB (!leI (.ofNat n) (.ofNat i))
    (ifK (Nat.blt i n && nonNil cs) (opt2 (fun _ c => ifK (AV.under 2 (.lst cs n tt nl)) (L96 g bs ln e Tryz.prog M (t96 (.sl 2 0 1 1 false) (.lst cs n tt nl) n (IntKind.i64.wrap (.ofNat i + 1))) (stI d a b [.int .i64 c]))) (cutN 2 (i * 2) cs)))
    (tex96 g bs ln d [] 0) := by kernel_rfl
theorem step96b : L96 g bs ln e Tryz.prog (M + 1) (t96 (.sl 2 0 (j + 1) 1 false) (.lst cs n tt nl) n (.ofNat i)) (stI d a b C) = byB (!leI (.ofNat n) (.ofNat i))
    (ifK (Nat.blt i n && nonNil cs) (opt2 (fun _ c => ifK (Nat.ble (j + 1 + 1) 1073741824) (optK (fun old => ifK (newest C.length ((j + 1) * 1)) (optK (fun v => ifK (nonNil v && AV.plains v) (ifK (AV.under 2 (.lst cs n tt nl))
      (L96 g bs ln e Tryz.prog M (t96 (.sl 2 0 (j + 1 + 1) 1 false) (.lst cs n tt nl) n (IntKind.i64.wrap (.ofNat i + 1))) (stI d a b v)))) (cutN ((j + 1 + 1) * 1) 0 (old ++ [.int .i64 c])))) (cutN ((j + 1) * 1) 0 C))) (cutN 2 (i * 2) cs)))
    (optK (fun v => ifK (Nat.blt 0 (j + 1) && AV.plains v) (tex96 g bs ln d v (j + 1))) (cutN ((j + 1) * 1) 0 C)) := by kernel_rfl
end
end Go.Am.Txt
end
section
namespace Go.Am.Txt
open Go Go.Am Go.Proofs Go.Am.Sto
def outI (acc : List Nat) : AV := match acc with | [] => mt | _ :: r => .sl 2 0 (r.length + 1) 1 false
def stAcc (d : Hid) (a b : Int) (acc : List Nat) : St := match acc with | [] => stE0 d a b | c :: r => stI d a b (intsN (c :: r))
theorem outI_snoc (acc : List Nat) (c : Nat) : outI (acc ++ [c]) = .sl 2 0 (acc.length + 1) 1 false := by cases acc <;> simp [outI]
theorem stAcc_snoc (d : Hid) (a b : Int) (acc : List Nat) (c : Nat) : stAcc d a b (acc ++ [c]) = stI d a b (intsN (acc ++ [c])) := by cases acc <;> rfl
theorem chV_len (l : List Nat) : (chV l).length = l.length := List.length_map _
section
variable (g : List AV → Nat → Bool) (bs : List AV → List AV) (ln : List AV → Nat) (e : List AV → Bool)
theorem main96 (d : Hid) (a b : Int) (tt nl : Bool) (l : List Nat) (hlen : l.length < 5000) : ∀ (N i : Nat) (acc : List Nat), acc = l.take i → l.length < i + N → i ≤ l.length →
    L96 g bs ln e Tryz.prog N (t96 (outI acc) (.lst (cellsA (chV l)) l.length tt nl) l.length (.ofNat i)) (stAcc d a b acc) = tex96 g bs ln d (intsN l) l.length
  | 0, i, _, _, h1, h2 => absurd h1 (by omega)
  | N + 1, i, acc, hacc, h1, h2 => by
    rcases Nat.lt_or_ge i l.length with hlt | hge
    · have hg : (chV l)[i]? = some (5, .ofNat l[i]) := by unfold chV; rw [List.getElem?_map, List.getElem?_eq_getElem hlt]; rfl
      obtain ⟨c1, c2⟩ := cells_cut (chV l) i _ hg
      have hb : (!leI (.ofNat l.length) (.ofNat i)) = true := by rw [leI_f (by simp only [Int.ofNat_eq_natCast]; omega)]; rfl
      have hbl : (Nat.blt i l.length && nonNil (cellsA (chV l))) = true := by rw [c2, show Nat.blt i l.length = true from Nat.ble_eq_true_of_le hlt]; rfl
      have hu : AV.under 2 (.lst (cellsA (chV l)) l.length tt nl) = true := cellsA_unders _ _
      have ew : IntKind.i64.wrap (Int.ofNat i + 1) = .ofNat (i + 1) := wI (n := i + 1) (by omega)
      have hta : acc ++ [l[i]] = l.take (i + 1) := by rw [hacc, List.take_add_one, List.getElem?_eq_getElem hlt]; rfl
      have hal : acc.length = i := by rw [hacc, List.length_take]; omega
      have go := main96 d a b tt nl l hlen N (i + 1) (acc ++ [l[i]]) hta (by omega) (by omega)
      rw [outI_snoc, stAcc_snoc] at go
      cases acc with
      | nil =>
        refine (step96a _ _ _ _ _ _ _ _ _ _ _ _ _).trans ?_
        rw [hb, hbl, c1]
        show ifK (AV.under 2 _) _ = _
        rw [hu, ew]
        exact go
      | cons x r =>
        refine (step96b _ _ _ _ _ _ _ _ _ _ _ _ _ r.length _).trans ?_
        rw [List.length_cons] at hal
        rw [hb, hbl, c1]
        show ifK (Nat.ble (r.length + 1 + 1) 1073741824) _ = _
        rw [Nat.ble_eq_true_of_le (show r.length + 1 + 1 ≤ 1073741824 by omega), cutN_self1 (by rw [intsN_len]; rfl)]
        show ifK (newest _ _) (optK _ (cutN ((r.length + 1 + 1) * 1) 0 (intsN (x :: r) ++ intsN [l[i]]))) = _
        rw [newest_ok, ← intsN_app, cutN_self1 (by rw [intsN_len]; simp)]
        show ifK (nonNil (intsN (x :: r ++ [l[i]])) && AV.plains (intsN (x :: r ++ [l[i]]))) _ = _
        rw [intsN_plains, intsN_ne (by simp)]
        show ifK (AV.under 2 _) _ = _
        rw [hu, ew]
        exact go
    · have hi : i = l.length := by omega
      subst hi
      have hb : (!leI (.ofNat l.length) (.ofNat l.length)) = false := by rw [leI_t (Int.le_refl _)]; rfl
      rw [List.take_length] at hacc
      subst hacc
      cases acc with
      | nil => exact (step96a _ _ _ _ _ _ _ _ _ _ _ _ _).trans (by rw [hb]; rfl)
      | cons x r =>
        refine (step96b _ _ _ _ _ _ _ _ _ _ _ _ _ r.length _).trans ?_
        rw [hb, cutN_self1 (by rw [intsN_len]; rfl)]
        show ifK (Nat.blt 0 (r.length + 1) && AV.plains (intsN (x :: r))) _ = _
        rw [intsN_plains, show Nat.blt 0 (r.length + 1) = true from Nat.ble_eq_true_of_le (by omega)]; rfl
end
theorem kX96 : KnownOk Tryz.prog (GU H0) (X96 isChs bs144 ln144 em144) := ((((KnownOk.none _ _).add (u0 k83)).add (u0 k93)).add (w41c H0)).add (z144 H0)
theorem kY96 {β : Type} : KnownKOk (X96 isChs bs144 ln144 em144) (Y96 isChs bs144 ln144 em144 : KnownK β) := addY (addY (addK (addK (KnownKOk.none _) 83 F83) 93 F93) 41 (wK_le _)) 144 (zK_le _)
def txtO (d : Hid) (a b : Int) : List Nat := (chOf (slotsO d a b)).flatMap enc
def F96 (d : Hid) : List AV → Option (Bool × AV × Hid)
  | [.ptrL [.hptr 0, .lst [.int .i64 a, .int .i64 b] 1 _ false] 0, .int .i64 (.ofNat 0)] => some (strO d a b, .str (txtO d a b), d)
  | _ => none
theorem k96 : MethOk Tryz.prog (GU H0) 96 F96 := meth_known (D := D96) (m := 5000) (loops := 5) (n := 8) hm hn (GU_plain H0) kX96 kY96 fun d ar x d' hF => by
  unfold F96 at hF
  split at hF
  case h_2 => cases hF
  rename_i a b tt
  simp only [Option.some.injEq, Prod.mk.injEq] at hF
  obtain ⟨h, rfl, rfl⟩ := hF
  have h0 := h
  unfold strO at h0
  rw [Bool.and_eq_true] at h0
  obtain ⟨q1, q2, q3⟩ := isCh_eq h0.2
  refine (start96 isChs bs144 ln144 em144 d a b tt).trans ((strK_ok h _ _).trans ?_)
  unfold txtO
  generalize hl : chOf (slotsO d a b) = l at q1 q2 q3 ⊢
  rw [q1]
  have hs : lstA (chV l) = .lst (cellsA (chV l)) l.length false (chV l).isEmpty := by
    show AV.lst (cellsA (chV l)) (chV l).length false (chV l).isEmpty = _
    rw [chV_len]
  rw [hs, chV_len]
  refine (main96 _ _ _ _ d a b false _ l (by omega) 5000 0 [] rfl (by omega) (by omega)).trans ?_
  obtain ⟨e1, e2⟩ := chs_of q2 (by omega)
  unfold tex96 bs144 ln144
  rw [e1, e2, cutN_self1 (by rw [bytesA_len])]
  show optK _ (bytesOf (bytesA (l.flatMap enc))) = _
  rw [bytes_all (flat_lt q2)]; rfl
end Go.Am.Txt
end
section
namespace Go.Am.Txt
open Go Go.Am Go.Proofs Go.Am.Sto
def ap1 (op : Int) (c : Hid → Int → Int → Bool) (r : Hid → Int → Int → (V2 × Int) × Hid) (d : Hid) : List AV → Option (Bool × AV × Hid)
  | [.hptr 0, .int .i64 o, .lst [.int .i64 a, .int .i64 b] 1 _ false] => bif eqI o op then some (c d a b, getV (r d a b).1, (r d a b).2) else none
  | _ => none
def ap2 (op : Int) (c : Hid → Int → Int → Int → Int → Bool) (r : Hid → Int → Int → Int → Int → (V2 × Int) × Hid) (d : Hid) : List AV → Option (Bool × AV × Hid)
  | [.hptr 0, .int .i64 o, .lst [.int .i64 a, .int .i64 b, .int .i64 x, .int .i64 y] 2 _ false] => bif eqI o op then some (c d a b x y, getV (r d a b x y).1, (r d a b x y).2) else none
  | _ => none
section
variable (P : Program)
abbrev XBs : Known := XB cWs tWs nWs DWs strO txtO cYs tYs nYs DYs cNs xNs cIs tIs nIs eIs DIs numC numG lBs mBs zBs tx60 sndG (g102 P) (ng102 P) (ls102 P) (ln102 P) (em102 P) eqvQ eql
abbrev YBs {β : Type} : KnownK β := YB cWs tWs nWs DWs strO txtO cYs tYs nYs DYs cNs xNs cIs tIs nIs eIs DIs numC numG lBs mBs zBs tx60 sndG (g102 P) (ng102 P) (ls102 P) (ln102 P) (em102 P) eqvQ eql
abbrev apBs (d : Hid) (op : Int) (cs : List AV) (n : Nat) (tt : Bool) : Option R := apB cWs tWs nWs DWs strO txtO cYs tYs nYs DYs cNs xNs cIs tIs nIs eIs DIs numC numG lBs mBs zBs tx60 sndG (g102 P) (ng102 P) (ls102 P) (ln102 P) (em102 P) eqvQ eql P d op cs n tt
end
theorem k95t : MethOk Tryz.prog (GU H0) 95 (F95v cWs tWs nWs DWs) := k95
theorem k96t : MethOk Tryz.prog (GU H0) 96 (F96v strO txtO) := k96
theorem k18t : MethOk Tryz.prog (GU H0) 18 (F18v cIs tIs nIs eIs DIs) := k18
theorem k60t : OkF (GU H0) 60 (wX (F60w tx60 sndG)) := w60
theorem k102t : OkF (GU H0) 102 (wX (F102w (g102 Tryz.prog) (ng102 Tryz.prog) (ls102 Tryz.prog) (ln102 Tryz.prog) (em102 Tryz.prog))) := w102
theorem k115t : MethOk Tryz.prog (GU H0) 115 (F115w eqvQ) := k115
theorem k99t : OkF (GU H0) 99 (wX (F99w eql)) := w99
theorem kXA : KnownOk Tryz.prog (GU H0) (XA eql) := ((((((((KnownOk.none _ _).add (u0 k83)).add (u0 k93)).add (ifX_ok (u0 k41m) (w41c H0))).add (u0 k84)).add (u0 k86)).add (u0 k38t)).add (u0 k22)).add k99t
theorem kXB : KnownOk Tryz.prog (GU H0) (XBs Tryz.prog) := (((((((((kXA).add k95t).add k96t).add k54t).add k94t).add k18t).add k114t).add k60t).add k102t).add k115t
theorem methK_le {β : Type} (F : Hid → List AV → Option (Bool × AV × Hid)) : LeF (methX F) (methK F : List AV → St → (Res → Option β) → Option β) := by
  obtain ⟨h', h1, h2⟩ := addK (KnownKOk.none Known.none : KnownKOk Known.none (KnownK.none : KnownK β)) 0 F 0 (methK F) rfl
  cases h1
  exact h2
theorem kYA {β : Type} : KnownKOk (XA eql) (YA eql : KnownK β) := addY (addP (addK (addK (addK (addY (addK (addK (KnownKOk.none _) 83 F83) 93 F93) 41 (ifKn_le (methK_le _) (wK_le _))) 84 F84) 86 F86) 38 F38t) 22 F22) 99 (wK_le _)
theorem kYB {β : Type} : KnownKOk (XBs Tryz.prog) (YBs Tryz.prog : KnownK β) := addK (addY (addY (addK (addK (addK (addK (addK (addK kYA 95 _) 96 _) 54 _) 94 _) 18 _) 114 _) 60 (wK_le _)) 102 (wK_le _)) 115 _
theorem ap1_known {op : Int} {c : Hid → Int → Int → Bool} {r : Hid → Int → Int → (V2 × Int) × Hid} (ht : ∀ (d : Hid) (a b : Int) (tt : Bool), c d a b = true → apBs Tryz.prog d op (c1A a b) 1 tt = some (getV (r d a b).1, (r d a b).2)) : MethOk Tryz.prog (GU H0) 10 (ap1 op c r) :=
  meth_known (D := noLive) (m := 100) (loops := 90) (n := 20) hm hn (GU_plain H0) kXB kYB fun d ar x d' hF => by
  unfold ap1 at hF
  split at hF
  case h_2 => cases hF
  rename_i o a b tt
  cases ho : eqI o op with
  | false => rw [ho] at hF; cases hF
  | true =>
  rw [ho] at hF
  simp only [cond_true, Option.some.injEq, Prod.mk.injEq] at hF
  obtain ⟨h1, rfl, rfl⟩ := hF
  obtain rfl := eqI_of ho
  exact ht d a b tt h1
theorem ap2_known {op : Int} {c : Hid → Int → Int → Int → Int → Bool} {r : Hid → Int → Int → Int → Int → (V2 × Int) × Hid} (ht : ∀ (d : Hid) (a b x y : Int) (tt : Bool), c d a b x y = true → apBs Tryz.prog d op (c2A a b x y) 2 tt = some (getV (r d a b x y).1, (r d a b x y).2)) : MethOk Tryz.prog (GU H0) 10 (ap2 op c r) :=
  meth_known (D := noLive) (m := 100) (loops := 90) (n := 20) hm hn (GU_plain H0) kXB kYB fun d ar x d' hF => by
  unfold ap2 at hF
  split at hF
  case h_2 => cases hF
  rename_i o a b x y tt
  cases ho : eqI o op with
  | false => rw [ho] at hF; cases hF
  | true =>
  rw [ho] at hF
  simp only [cond_true, Option.some.injEq, Prod.mk.injEq] at hF
  obtain ⟨h1, rfl, rfl⟩ := hF
  obtain rfl := eqI_of ho
  exact ht d a b x y tt h1
/-! ## Values -/
def snd1 (d : Hid) (a b : Int) : Bool := sndM d.names.length d.rows.length a b
theorem okq_1 {d : Hid} {a b : Int} (h : snd1 d a b = true) : okq d (c1A a b) 1 = true := by
  show (true && (true && okM d [(a, b)])) = true
  unfold okM
  simp only [List.all_cons, List.all_nil, Bool.and_true, Bool.true_and]
  exact h
theorem okq_2 {d : Hid} {a b x y : Int} (h : snd1 d a b = true) (g : snd1 d x y = true) : okq d (c2A a b x y) 2 = true := by
  show (true && (true && okM d [(a, b), (x, y)])) = true
  unfold okM
  simp only [List.all_cons, List.all_nil, Bool.and_true, Bool.true_and]
  rw [Bool.and_eq_true]
  exact ⟨h, g⟩
theorem mV_ok {D : (V2 × Int) × Hid} (h : eqI D.1.2 0 = true) : mV D = some (getV D.1, D.2) := by
  have := eqI_of h
  obtain ⟨⟨v, e⟩, d⟩ := D
  cases this
  rfl
theorem ch_no6 {l : List V2} (h : isCh l = true) : no6 l = true := by
  obtain ⟨e, _⟩ := isCh_eq h
  rw [e]
  unfold no6 chV
  rw [List.all_eq_true]
  intro p hp
  obtain ⟨c, _, rfl⟩ := List.mem_map.1 hp
  rfl
theorem ch_okAll (n : Nat) {l : List V2} (h : isCh l = true) : okAll n l = true := by
  obtain ⟨e, h1, _⟩ := isCh_eq h
  rw [e]; exact chV_okAll n h1
theorem ch_len {l : List V2} (h : isCh l = true) : l.length ≤ 4096 := by
  unfold isCh at h
  rw [Bool.and_eq_true] at h
  exact Nat.le_of_ble_eq_true h.1
theorem strO_is {d : Hid} {a b : Int} (h : strO d a b = true) : isCh (slotsO d a b) = true := by
  unfold strO at h
  rw [Bool.and_eq_true] at h
  exact h.2
/-! ## Each of them -/
def c40 (d : Hid) (a b : Int) : Bool := snd1 d a b && strO d a b
def r40 (d : Hid) (a b : Int) : (V2 × Int) × Hid := (((4, .ofNat (slotsO d a b).length), 0), d)
theorem k10_40 : MethOk Tryz.prog (GU H0) 10 (ap1 40 c40 r40) := ap1_known fun d a b tt h => by
  unfold c40 at h
  rw [Bool.and_eq_true] at h
  refine (tp40 _ _ _ _ _ _ _ _ _ _ _ _ _ _ _ _ _ _ _ _ _ _ _ _ _ _ _ _ _ _ _ d a b tt).trans ?_
  rw [okq_1 h.1]
  exact (strK_ok h.2 _ _).trans rfl
def r44 (d : Hid) (a b : Int) : (V2 × Int) × Hid := downOf (slotsO d a b) (slotsO d a b).length d (0, 0)
def c44 (d : Hid) (a b : Int) : Bool := snd1 d a b && (strO d a b && eqI (r44 d a b).1.2 0)
theorem k10_44 : MethOk Tryz.prog (GU H0) 10 (ap1 44 c44 r44) := ap1_known fun d a b tt h => by
  unfold c44 at h
  rw [Bool.and_eq_true, Bool.and_eq_true] at h
  obtain ⟨h1, h2, h3⟩ := h
  have hc := strO_is h2
  have hl := ch_len hc
  refine (tp44 _ _ _ _ _ _ _ _ _ _ _ _ _ _ _ _ _ _ _ _ _ _ _ _ _ _ _ _ _ _ _ d a b tt).trans ?_
  rw [okq_1 h1]
  refine (strK_ok h2 _ _).trans ?_
  rw [lstA_plain, isCells_cells, ofCells_cells, Nat.ble_eq_true_of_le (show (slotsO d a b).length ≤ 4500 by omega), ch_no6 hc]
  exact mV_ok h3
def r45 (d : Hid) (a b : Int) : (V2 × Int) × Hid := mkOf d 4 (elems d a b).1
def c45 (d : Hid) (a b : Int) : Bool := snd1 d a b && ((elemsO d a b).isSome && (eqI (elems d a b).2.1 0 && (isCh (elems d a b).1 && eqI (r45 d a b).1.2 0)))
theorem len_flag (l : List V2) : (bif l.length.beq 0 then l.isEmpty else !l.isEmpty) = true := by cases l <;> rfl
theorem plains_lf (l : List V2) (f : Nat) : AV.plains [lstA l, .fn (.func f) [] []] = true := by
  show (AV.plain (lstA l) && true) = true
  rw [lstA_plain]; rfl
theorem k10_45 : MethOk Tryz.prog (GU H0) 10 (ap1 45 c45 r45) := ap1_known fun d a b tt h => by
  unfold c45 at h
  rw [Bool.and_eq_true, Bool.and_eq_true, Bool.and_eq_true, Bool.and_eq_true] at h
  obtain ⟨h1, h2, h3, h4, h5⟩ := h
  refine (tp45 _ _ _ _ _ _ _ _ _ _ _ _ _ _ _ _ _ _ _ _ _ _ _ _ _ _ _ _ _ _ _ d a b tt).trans ?_
  unfold r45 at h5 ⊢
  unfold listB
  rw [okq_1 h1, h2, h3]
  generalize (elems d a b).1 = l at *
  have hl := ch_len h4
  show list45 l d = _
  unfold list45
  rw [plains_lf, isCells_cells, ofCells_cells, Nat.ble_eq_true_of_le (show l.length ≤ 4500 by omega), ch_all5 h4, leI_t (show Int.ofNat l.length ≤ 4096 by simp only [Int.ofNat_eq_natCast]; omega), lstA_plain, ch_okAll _ h4, len_flag]
  exact mV_ok h5
def snd2 (d : Hid) (a b x y : Int) : Bool := snd1 d a b && snd1 d x y
theorem okq_s {d : Hid} {a b x y : Int} (h : snd2 d a b x y = true) : okq d (c2A a b x y) 2 = true := by
  unfold snd2 at h
  rw [Bool.and_eq_true] at h
  exact okq_2 h.1 h.2
def rTrue (d : Hid) (_ _ _ _ : Int) : (V2 × Int) × Hid := (((1, 0), 0), d)
def c43 (d : Hid) (a b x y : Int) : Bool := snd2 d a b x y && (strO d a b && (strO d x y && decide (slotsO d a b = slotsO d x y)))
theorem k10_43 : MethOk Tryz.prog (GU H0) 10 (ap2 43 c43 rTrue) := ap2_known fun d a b x y tt h => by
  unfold c43 at h
  rw [Bool.and_eq_true, Bool.and_eq_true, Bool.and_eq_true, decide_eq_true_iff] at h
  obtain ⟨h1, h2, h3, h4⟩ := h
  have hl := ch_len (strO_is h2)
  refine (tp43 _ _ _ _ _ _ _ _ _ _ _ _ _ _ _ _ _ _ _ _ _ _ _ _ _ _ _ _ _ _ _ d a b x y tt).trans ?_
  rw [okq_s h1]
  refine (strK_ok h2 _ _).trans ?_
  refine (strK_ok h3 _ _).trans ?_
  rw [← h4]
  have hp : AV.plains [lstA (slotsO d a b), lstA (slotsO d a b)] = true := by
    show (AV.plain (lstA _) && (AV.plain (lstA _) && true)) = true
    rw [lstA_plain]; rfl
  have he : eql (cellsA (slotsO d a b)) (cellsA (slotsO d a b)) (slotsO d a b).length (slotsO d a b).length = true := by
    unfold eql
    rw [isCells_cells, Nat.ble_eq_true_of_le (show (slotsO d a b).length ≤ 4500 by omega), decide_eq_true rfl, Nat.beq_refl]; rfl
  rw [hp, he]; rfl
def x55 (d : Hid) (a b : Int) : List Nat := txN (numG d a b) (numL d a b)
def c55 (d : Hid) (a b : Int) : Bool := snd1 d a b && (numC d a b && (sndG (numG d a b) (u32N (numL d a b)) (numL d a b).length && okS d (x55 d a b)))
def r55 (d : Hid) (a b : Int) : (V2 × Int) × Hid := (((mkS d (x55 d a b)).1.1, 0), (mkS d (x55 d a b)).2)
theorem k10_55 : MethOk Tryz.prog (GU H0) 10 (ap1 55 c55 r55) := ap1_known fun d a b tt h => by
  unfold c55 at h
  rw [Bool.and_eq_true, Bool.and_eq_true, Bool.and_eq_true] at h
  obtain ⟨h1, h2, h3, h4⟩ := h
  refine (tp55 _ _ _ _ _ _ _ _ _ _ _ _ _ _ _ _ _ _ _ _ _ _ _ _ _ _ _ _ _ _ _ d a b tt).trans ?_
  have hx : tx60 (numG d a b) (lBs d a b) = x55 d a b := by unfold tx60 x55; rw [limN_u32]
  have hp : AV.plains [.agg [.bool (numG d a b), .lst (lBs d a b) (mBs d a b) false (zBs d a b)]] = true := num_plains _ _ _ _ _
  have h4' : cWs d (x55 d a b) = true := h4
  rw [hx, okq_1 h1, h2, hp, h3, h4']; rfl
theorem plain_num {g t nl : Bool} {r : List AV} {n : Nat} (h : r = u32N (limN r)) : AV.plain (.agg [.bool g, .lst r n t nl]) = true := by
  have : AV.plains r = true := by rw [h]; exact u32N_plains _
  show (true && (AV.plains r && true)) = true
  rw [this]; rfl
section
variable (P : Program)
def x56 (d : Hid) (a b : Int) : (V2 × Int) × Hid := intO d (ng102 P (txtO d a b)) (limN (ls102 P (txtO d a b)))
def c56 (d : Hid) (a b : Int) : Bool := snd1 d a b && (strO d a b && (g102 P (txtO d a b) && (sndG (ng102 P (txtO d a b)) (ls102 P (txtO d a b)) (ln102 P (txtO d a b)) && eqI (x56 P d a b).1.2 0)))
end
theorem k10_56 : MethOk Tryz.prog (GU H0) 10 (ap1 56 (c56 Tryz.prog) (x56 Tryz.prog)) := ap1_known fun d a b tt h => by
  unfold c56 at h
  rw [Bool.and_eq_true, Bool.and_eq_true, Bool.and_eq_true, Bool.and_eq_true] at h
  obtain ⟨h1, h2, h3, h4, h5⟩ := h
  obtain ⟨e1, _, _⟩ := snd_is h4
  refine (tp56 _ _ _ _ _ _ _ _ _ _ _ _ _ _ _ _ _ _ _ _ _ _ _ _ _ _ _ _ _ _ _ d a b tt).trans ?_
  unfold x56 at h5 ⊢
  refine (ifK_t (okq_1 h1) _).trans ?_
  refine (ifK_t h2 _).trans ?_
  refine (ifK_t h3 _).trans ?_
  generalize ng102 Tryz.prog (txtO d a b) = g at *
  generalize ls102 Tryz.prog (txtO d a b) = r at *
  generalize ln102 Tryz.prog (txtO d a b) = n at *
  generalize em102 Tryz.prog (txtO d a b) = em at *
  refine (ifK_t (plain_num e1) _).trans ?_
  refine (ifK_t (show cIs d g r n = true from h4) _).trans ?_
  exact mV_ok (D := intO d g (limN r)) h5
def c38 (d : Hid) (a b : Int) : Bool := snd1 d a b && (strO d a b && (leI 1 (.ofNat (txtO d a b).length) && (leI (.ofNat (txtO d a b).length) 64 && cYs d (txtO d a b))))
def r38 (d : Hid) (a b : Int) : (V2 × Int) × Hid := (((6, 0), 0), DYs d (txtO d a b))
theorem k10_38 : MethOk Tryz.prog (GU H0) 10 (ap1 38 c38 r38) := ap1_known fun d a b tt h => by
  unfold c38 at h
  rw [Bool.and_eq_true, Bool.and_eq_true, Bool.and_eq_true, Bool.and_eq_true] at h
  obtain ⟨h1, h2, h3, h4, h5⟩ := h
  refine (tp38 _ _ _ _ _ _ _ _ _ _ _ _ _ _ _ _ _ _ _ _ _ _ _ _ _ _ _ _ _ _ _ d a b tt).trans ?_
  rw [okq_1 h1, h2, h3, h4, h5]; rfl
def c37 (d : Hid) (a b : Int) : Bool := snd1 d a b && (cNs d a b && okS d (xNs d a b))
def r37 (d : Hid) (a b : Int) : (V2 × Int) × Hid := (((mkS d (xNs d a b)).1.1, 0), (mkS d (xNs d a b)).2)
theorem k10_37 : MethOk Tryz.prog (GU H0) 10 (ap1 37 c37 r37) := ap1_known fun d a b tt h => by
  unfold c37 at h
  rw [Bool.and_eq_true, Bool.and_eq_true] at h
  obtain ⟨h1, h2, h3⟩ := h
  refine (tp37 _ _ _ _ _ _ _ _ _ _ _ _ _ _ _ _ _ _ _ _ _ _ _ _ _ _ _ _ _ _ _ d a b tt).trans ?_
  have h3' : cWs d (xNs d a b) = true := h3
  rw [okq_1 h1, h2, h3']; rfl
def c32 (d : Hid) (a b x y : Int) : Bool := snd2 d a b x y && eqvQ d a b x y
theorem k10_32 : MethOk Tryz.prog (GU H0) 10 (ap2 32 c32 rTrue) := ap2_known fun d a b x y tt h => by
  unfold c32 at h
  rw [Bool.and_eq_true] at h
  refine (tp32 _ _ _ _ _ _ _ _ _ _ _ _ _ _ _ _ _ _ _ _ _ _ _ _ _ _ _ _ _ _ _ d a b x y tt).trans ?_
  rw [okq_s h.1, h.2]; rfl
theorem k10_31 : MethOk Tryz.prog (GU H0) 10 (ap2 31 c32 rTrue) := ap2_known fun d a b x y tt h => by
  unfold c32 at h
  rw [Bool.and_eq_true] at h
  refine (tp31 _ _ _ _ _ _ _ _ _ _ _ _ _ _ _ _ _ _ _ _ _ _ _ _ _ _ _ _ _ _ _ d a b x y tt).trans ?_
  rw [okq_s h.1, h.2]; rfl
def c42 (d : Hid) (a b x y : Int) : Bool := snd2 d a b x y && (strO d a b && (strO d x y && (Nat.ble (slotsO d a b ++ slotsO d x y).length 4096 && eqI (catD d a b x y).1.2 0)))
def r42 (d : Hid) (a b x y : Int) : (V2 × Int) × Hid := (((catD d a b x y).1.1, 0), (catD d a b x y).2)
abbrev cCs (d : Hid) (a b x y : Int) : Bool := strO d a b && (strO d x y && (Nat.ble (slotsO d a b ++ slotsO d x y).length 4096 && eqI (catD d a b x y).1.2 0))
abbrev tCs (d : Hid) (a b x y : Int) : Int := (catD d a b x y).1.1.1
abbrev nCs (d : Hid) (a b x y : Int) : Int := (catD d a b x y).1.1.2
abbrev DCs (d : Hid) (a b x y : Int) : Hid := (catD d a b x y).2
theorem k47t : MethOk Tryz.prog (GU H0) 47 (F47v cCs tCs nCs DCs) := k47
theorem kXC : KnownOk Tryz.prog (GU H0) (XC cCs tCs nCs DCs) := (((KnownOk.none _ _).add (u0 k41m)).add (u0 k22)).add k47t
theorem kYC {β : Type} : KnownKOk (XC cCs tCs nCs DCs) (YC cCs tCs nCs DCs : KnownK β) := addK (addP (addK (KnownKOk.none _) 41 F41m) 22 F22) 47 _
theorem k10_42 : MethOk Tryz.prog (GU H0) 10 (ap2 42 c42 r42) := meth_known (D := noLive) (m := 100) (loops := 90) (n := 20) hm hn (GU_plain H0) kXC kYC fun d ar x d' hF => by
  unfold ap2 at hF
  split at hF
  case h_2 => cases hF
  rename_i o a b x y tt
  cases ho : eqI o 42 with
  | false => rw [ho] at hF; cases hF
  | true =>
  rw [ho] at hF
  simp only [cond_true, Option.some.injEq, Prod.mk.injEq] at hF
  obtain ⟨h1, rfl, rfl⟩ := hF
  obtain rfl := eqI_of ho
  unfold c42 at h1
  rw [Bool.and_eq_true] at h1
  refine (tp42 cCs tCs nCs DCs d a b x y tt).trans ?_
  have h2 : cCs d a b x y = true := h1.2
  rw [okq_s h1.1, h2]; rfl
def P10t (P : Program) := orF (ap1 40 c40 r40) (orF (ap1 44 c44 r44) (orF (ap1 45 c45 r45) (orF (ap2 43 c43 rTrue) (orF (ap1 55 c55 r55) (orF (ap1 56 (c56 P) (x56 P)) (orF (ap1 38 c38 r38) (orF (ap1 37 c37 r37) (orF (ap2 32 c32 rTrue) (orF (ap2 31 c32 rTrue) (ap2 42 c42 r42))))))))))
theorem k10 : MethOk Tryz.prog (GU H0) 10 (P10t Tryz.prog) := meth_or k10_40 (meth_or k10_44 (meth_or k10_45 (meth_or k10_43 (meth_or k10_55 (meth_or k10_56 (meth_or k10_38 (meth_or k10_37 (meth_or k10_32 (meth_or k10_31 k10_42)))))))))
end Go.Am.Txt
end
