import Derived.Test.YtlibahklbbachaaGreatDoorTx35
import Derived.Test.YtlibahklbbachaaGreatDoorTx36
import Derived.Test.YtlibahklbbachaaGreatDoorTx30
import Derived.Test.YtlibahklbbachaaGreatDoorTx28
import Derived.Test.YtlibahklbbachaaGreatDoorTx23
import Derived.Test.YtlibahklbbachaaGreatDoorTx33
import Derived.Test.YtlibahklbbachaaGreatDoorTx16
set_option autoImplicit false
set_option maxRecDepth 100000
set_option linter.unusedSimpArgs false
set_option linter.unusedVariables false
section
namespace Go.Am.Txt
open Go Go.Am Go.Proofs Go.Am.Sto
def isVal : Option (Bool × AV × Hid) → Option (V2 × Hid)
  | some (true, .tup [.agg [.int .i64 t, .int .i64 n], .int .i64 (.ofNat 0)], d) => some ((t, n), d)
  | _ => none
section
variable (P : Program)
def valO (d : Hid) (ar : List AV) : Option (V2 × Hid) := isVal (P10t P d ar)
def valC (d : Hid) (ar : List AV) : Bool := (valO P d ar).isSome
def valT (d : Hid) (ar : List AV) : Int := match valO P d ar with | some p => p.1.1 | none => 0
def valN (d : Hid) (ar : List AV) : Int := match valO P d ar with | some p => p.1.2 | none => 0
def valD (d : Hid) (ar : List AV) : Hid := match valO P d ar with | some p => p.2 | none => d
end
def valF (c : Hid → List AV → Bool) (t n : Hid → List AV → Int) (D : Hid → List AV → Hid) (d : Hid) (ar : List AV) : Option (Bool × AV × Hid) := some (c d ar, .tup [.agg [.int .i64 (t d ar), .int .i64 (n d ar)], .int .i64 0], D d ar)
theorem isVal_some {p : Option (Bool × AV × Hid)} {q : V2 × Hid} (h : isVal p = some q) : p = some (true, .tup [.agg [.int .i64 q.1.1, .int .i64 q.1.2], .int .i64 0], q.2) := by
  unfold isVal at h
  split at h
  · cases h; rfl
  · cases h
theorem k10v : MethOk Tryz.prog (GU H0) 10 (valF (valC Tryz.prog) (valT Tryz.prog) (valN Tryz.prog) (valD Tryz.prog)) := meth_mono k10 fun d ar x d' h => by
  unfold valF at h
  simp only [Option.some.injEq, Prod.mk.injEq] at h
  obtain ⟨h1, rfl, rfl⟩ := h
  unfold valC at h1
  obtain ⟨q, hq⟩ := Option.isSome_iff_exists.1 h1
  rw [isVal_some hq, valT, valN, valD, hq]
def numK {β : Type} (c : List Nat → Bool) (num : List Nat → Int) (ar : List AV) (s : St) (kr : Res → Option β) : Option β :=
  match ar with
  | [.str nm] => ifK (c nm) (kr (.ret (.tup [.int .i64 (num nm), .bool true]) s))
  | _ => none
def X14 (c : Hid → List AV → Bool) (t n : Hid → List AV → Int) (D : Hid → List AV → Hid) : Known := (Known.none.add 10 (methX (valF c t n D))).add 19 (pureX F19)
def Y14 {β : Type} (cn : List Nat → Bool) (num : List Nat → Int) (c : Hid → List AV → Bool) (t n : Hid → List AV → Int) (D : Hid → List AV → Hid) : KnownK β := (KnownK.none.add 10 (methK (valF c t n D))).add 19 (numK cn num)
theorem t14 (cn : List Nat → Bool) (num : List Nat → Int) (c : Hid → List AV → Bool) (t n : Hid → List AV → Int) (D : Hid → List AV → Hid) (d : Hid) (nm : List Nat) (cs : List AV) (k : Nat) (tt nl : Bool) :
    bodyY Tryz.prog (GU H0) (X14 c t n D) (Y14 cn num c t n D) 5 8 noLive Res.meth? 5 Tryz.prog.funcs[14]? [.hptr 0, .str nm, .lst cs k tt nl] (St.one d) =
    ifK (cn nm) (ifK (AV.plain (.lst cs k tt nl)) (ifK (c d [.hptr 0, .int .i64 (num nm), .lst cs k tt nl])
      (some (val (t d [.hptr 0, .int .i64 (num nm), .lst cs k tt nl]) (n d [.hptr 0, .int .i64 (num nm), .lst cs k tt nl]), D d [.hptr 0, .int .i64 (num nm), .lst cs k tt nl])))) := by kernel_rfl
def valG (c : Hid → List AV → Bool) (t n : Hid → List AV → Int) (D : Hid → List AV → Hid) (d : Hid) (ar : List AV) : Option (Bool × AV × Hid) := some (c d ar, .agg [.int .i64 (t d ar), .int .i64 (n d ar)], D d ar)
def q14 : List AV → List AV
  | [.hptr 0, .str nm, .lst cs k tt nl] => [.hptr 0, .int .i64 (numOf nm), .lst cs k tt nl]
  | _ => []
section
variable (P : Program)
def c14 (d : Hid) (ar : List AV) : Bool := match ar with
  | [.hptr 0, .str nm, .lst cs k tt nl] => leI 0 (numOf nm) && (AV.plains cs && valC P d [.hptr 0, .int .i64 (numOf nm), .lst cs k tt nl])
  | _ => false
def t14' (d : Hid) (ar : List AV) : Int := valT P d (q14 ar)
def n14' (d : Hid) (ar : List AV) : Int := valN P d (q14 ar)
def D14' (d : Hid) (ar : List AV) : Hid := valD P d (q14 ar)
end
abbrev cnO (nm : List Nat) : Bool := leI 0 (numOf nm)
theorem kX14 : KnownOk Tryz.prog (GU H0) (X14 (valC Tryz.prog) (valT Tryz.prog) (valN Tryz.prog) (valD Tryz.prog)) := ((KnownOk.none _ _).add k10v).add (u0 k19)
theorem kY14 {β : Type} : KnownKOk (X14 (valC Tryz.prog) (valT Tryz.prog) (valN Tryz.prog) (valD Tryz.prog)) (Y14 cnO numOf (valC Tryz.prog) (valT Tryz.prog) (valN Tryz.prog) (valD Tryz.prog) : KnownK β) := addY (addK (KnownKOk.none _) 10 _) 19 fun ar s kr kr' h => by
  unfold numK
  split
  · rename_i nm
    refine Le.ifK fun hc => ?_
    have : pureX F19 [.str nm] s = .ret (.tup [.int .i64 (numOf nm), .bool true]) s := by
      unfold pureX F19
      simp only
      rw [cond_of_true hc]
    rw [this]
    exact h _
  · exact .none _
theorem k14 : MethOk Tryz.prog (GU H0) 14 (valG (c14 Tryz.prog) (t14' Tryz.prog) (n14' Tryz.prog) (D14' Tryz.prog)) := meth_known (D := noLive) (m := 5) (loops := 5) (n := 8) hm hn (GU_plain H0) kX14 kY14 fun d ar x d' hF => by
  unfold valG at hF
  simp only [Option.some.injEq, Prod.mk.injEq] at hF
  obtain ⟨h1, rfl, rfl⟩ := hF
  unfold c14 at h1
  split at h1
  · rename_i nm cs k tt nl
    obtain ⟨p1, h1⟩ := Bool.and_eq_true_iff.1 h1
    obtain ⟨p2, p3⟩ := Bool.and_eq_true_iff.1 h1
    refine (t14 cnO numOf (valC Tryz.prog) (valT Tryz.prog) (valN Tryz.prog) (valD Tryz.prog) d nm cs k tt nl).trans ?_
    rw [show cnO nm = true from p1, show AV.plain (.lst cs k tt nl) = true from p2, p3]
    rfl
  · cases h1
def Runs (P : Program) (d : Hid) (ar : List AV) (v : V2) (d' : Hid) : Prop := c14 P d ar = true ∧ t14' P d ar = v.1 ∧ n14' P d ar = v.2 ∧ D14' P d ar = d'
theorem runs_of {P : Program} {d d' : Hid} {nm : List Nat} {op : Int} {cs : List AV} {k : Nat} {tt nl : Bool} {v : V2} (hn : numOf nm = op) (h0 : leI 0 op = true) (hp : AV.plains cs = true)
    (h : P10t P d [.hptr 0, .int .i64 op, .lst cs k tt nl] = some (true, getV (v, 0), d')) : Runs P d [.hptr 0, .str nm, .lst cs k tt nl] v d' := by
  subst hn
  have e : valO P d [.hptr 0, .int .i64 (numOf nm), .lst cs k tt nl] = some (v, d') := by unfold valO; rw [h]; rfl
  refine ⟨?_, ?_, ?_, ?_⟩
  · show (leI 0 (numOf nm) && (AV.plains cs && valC P d [.hptr 0, .int .i64 (numOf nm), .lst cs k tt nl])) = true
    rw [h0, hp, valC, e]; rfl
  · show valT P d [.hptr 0, .int .i64 (numOf nm), .lst cs k tt nl] = _
    rw [valT, e]
  · show valN P d [.hptr 0, .int .i64 (numOf nm), .lst cs k tt nl] = _
    rw [valN, e]
  · show valD P d [.hptr 0, .int .i64 (numOf nm), .lst cs k tt nl] = _
    rw [valD, e]
end Go.Am.Txt
end
section
namespace Go.Am.Txt
open Go Go.Am Go.Proofs Go.Am.Sto
structure Okt (d : Hid) (u : Int) : Prop where
  nums : d.nums = [20000, u]
  len : (d.rows.length : Int) ≤ u
def Grw (d d' : Hid) : Prop := ∃ r, d'.rows = d.rows ++ r
structure To (d d' : Hid) (u : Int) : Prop where
  ok : Okt d' u
  grow : Grw d d'
  names : d'.names = d.names
theorem Grw.refl (d : Hid) : Grw d d := ⟨[], (List.append_nil _).symm⟩
theorem get_more {rows r : List Ob} {i : Nat} {o : Ob} (h : rows[i]? = some o) : (rows ++ r)[i]? = some o := by
  rw [List.getElem?_append_left]
  · exact h
  · exact (List.getElem?_eq_some_iff.1 h).1
theorem Grw.at {d d' : Hid} (h : Grw d d') {i : Nat} {o : Ob} (hv : d.rows[i]? = some o) : d'.rows[i]? = some o := by
  obtain ⟨r, hr⟩ := h; rw [hr]; exact get_more hv
theorem Grw.trans {a b c : Hid} (h : Grw a b) (g : Grw b c) : Grw a c := by
  obtain ⟨r, hr⟩ := h; obtain ⟨q, hq⟩ := g
  exact ⟨r ++ q, by rw [hq, hr, List.append_assoc]⟩
theorem mk_to {d : Hid} {u : Int} (ho : Okt d u) (k : Int) {sl : List V2} (hok : okAll d.rows.length sl = true) (hf : u + 1 + sl.length ≤ 20000) :
    ∃ d', mkOf d k sl = (((7, .ofNat d.rows.length), 0), d') ∧ To d d' (u + 1 + sl.length) ∧ d'.rows = d.rows ++ [(k, sl)] := by
  have hl := ho.len
  have hfit : Fit 20000 u d.rows.length := ⟨by omega, by omega, by omega, hl⟩
  have hm : sl.length ≤ 1073741824 := by omega
  have hfu : Sto.full 20000 u sl.length = false := by rw [full_iff hfit hm, decide_eq_true (by omega)]; rfl
  refine ⟨⟨0, [20000, u + 1 + sl.length], d.rows ++ [(k, sl)], d.names⟩, ?_, ⟨⟨rfl, ?_⟩, ⟨[(k, sl)], rfl⟩, rfl⟩, rfl⟩
  · unfold mkOf
    rw [ho.nums]
    simp only
    rw [hok, hfu, pay_eq hfit hm]
  · simp only [List.length_append, List.length_singleton]
    push_cast
    omega
theorem snd_obj {d : Hid} {i : Nat} (h : i < d.rows.length) : snd1 d 7 (.ofNat i) = true := by
  show byB (leI 0 (.ofNat i)) (!leI (.ofNat d.rows.length) (.ofNat i)) false = true
  rw [leI_t (show (0 : Int) ≤ Int.ofNat i from Int.natCast_nonneg i), leI_f (show Int.ofNat i < Int.ofNat d.rows.length by simp only [Int.ofNat_eq_natCast]; omega)]; rfl
theorem at_lt {rows : List Ob} {i : Nat} {o : Ob} (h : rows[i]? = some o) : i < rows.length := (List.getElem?_eq_some_iff.1 h).1
theorem objAt_at (rows : List Ob) (i : Nat) : objAt rows 7 (.ofNat i) = rows[i]? := rfl
theorem slots_at {d : Hid} {i : Nat} {o : Ob} (h : d.rows[i]? = some o) : slotsO d 7 (.ofNat i) = o.2 := by unfold slotsO; rw [objAt_at, h]
theorem kind_at {d : Hid} {i : Nat} {o : Ob} (h : d.rows[i]? = some o) : kindOf d.rows 7 (.ofNat i) = o.1 := by unfold kindOf; rw [objAt_at, h]
/-! ## Strings -/
structure Str (d : Hid) (v : V2) (l : List Nat) : Prop where
  ex : ∃ i : Nat, v = (7, .ofNat i) ∧ d.rows[i]? = some (4, chV l)
  ok : ∀ c ∈ l, okc c = true
  len : l.length ≤ 4096
section
variable {d d' : Hid} {u : Int} {v w : V2} {l m : List Nat}
theorem Str.mono (h : Str d v l) (g : Grw d d') : Str d' v l := by
  obtain ⟨i, h1, h2⟩ := h.ex
  exact ⟨⟨i, h1, g.at h2⟩, h.ok, h.len⟩
theorem Str.snd (h : Str d v l) : snd1 d v.1 v.2 = true := by
  obtain ⟨i, rfl, h2⟩ := h.ex
  exact snd_obj (at_lt h2)
theorem Str.slots (h : Str d v l) : slotsO d v.1 v.2 = chV l := by
  obtain ⟨i, rfl, h2⟩ := h.ex
  exact slots_at h2
theorem Str.str (h : Str d v l) : strO d v.1 v.2 = true := by
  unfold strO
  rw [h.slots, chV_ch h.ok h.len]
  obtain ⟨i, rfl, h2⟩ := h.ex
  rw [show kindOf d.rows (7, Int.ofNat i).1 (7, Int.ofNat i).2 = 4 from kind_at h2]; rfl
theorem Str.txt (h : Str d v l) : txtO d v.1 v.2 = l.flatMap enc := by
  unfold txtO
  rw [h.slots, chOf_chV]
theorem str_to (ho : Okt d u) (hok : ∀ c ∈ l, okc c = true) (hl : l.length ≤ 4096) (hf : u + 1 + l.length ≤ 20000) :
    ∃ x d', mkOf d 4 (chV l) = ((x, 0), d') ∧ To d d' (u + 1 + l.length) ∧ Str d' x l := by
  obtain ⟨d', h1, h2, h3⟩ := mk_to ho 4 (chV_okAll d.rows.length hok) (by rw [chV_length]; exact hf)
  rw [chV_length] at h2
  exact ⟨_, d', h1, h2, ⟨_, rfl, by rw [h3]; simp⟩, hok, hl⟩
theorem txt_to (ho : Okt d u) (hok : ∀ c ∈ l, okc c = true) (hl : (l.flatMap enc).length < 2000) (hf : u + 1 + l.length ≤ 20000) :
    okS d (l.flatMap enc) = true ∧ ∃ x d', mkS d (l.flatMap enc) = ((x, 0), d') ∧ To d d' (u + 1 + l.length) ∧ Str d' x l := by
  obtain ⟨t1, t2⟩ := text_of hok hl
  have hlen := flat_len l
  obtain ⟨x, d', h1, h2, h3⟩ := str_to ho hok (by omega) hf
  have hm : mkS d (l.flatMap enc) = ((x, 0), d') := by
    unfold mkS chsT
    rw [t2]; exact h1
  refine ⟨?_, x, d', hm, h2, h3⟩
  unfold okS
  rw [t1, hm]; rfl
/-! ## Lists of characters -/
def IsL (rows : List Ob) : List V2 → V2 → Prop
  | [], v => v = (0, 0)
  | x :: l, v => ∃ (i : Nat) (w : V2), v = (7, .ofNat i) ∧ rows[i]? = some (1, [x, w]) ∧ IsL rows l w
theorem IsL.mono {rows : List Ob} (r : List Ob) : ∀ {l : List V2} {v : V2}, IsL rows l v → IsL (rows ++ r) l v
  | [], _, h => h
  | _ :: _, _, ⟨i, w, h1, h2, h3⟩ => ⟨i, w, h1, get_more h2, IsL.mono r h3⟩
theorem IsL.sndB {rows : List Ob} : ∀ {l : List V2} {v : V2}, IsL rows l v → Sto.sndB rows.length v.1 v.2 = true
  | [], v, h => by rw [show v = (0, 0) from h]; rfl
  | _ :: _, _, ⟨i, w, h1, h2, _⟩ => by
    rw [h1]
    show byB (leI 0 (.ofNat i)) (!leI (.ofNat rows.length) (.ofNat i)) false = true
    have := at_lt h2
    rw [leI_t (show (0 : Int) ≤ Int.ofNat i from Int.natCast_nonneg i), leI_f (show Int.ofNat i < Int.ofNat rows.length by simp only [Int.ofNat_eq_natCast]; omega)]; rfl
theorem pair_0 {rows : List Ob} {i : Nat} {x w : V2} (h : rows[i]? = some (1, [x, w])) : getOf rows 7 (.ofNat i) 0 = (x, 0) := by
  show getOf rows 7 (.ofNat i) (.ofNat 0) = _
  unfold getOf; rw [objAt_at, h]; rfl
theorem pair_1 {rows : List Ob} {i : Nat} {x w : V2} (h : rows[i]? = some (1, [x, w])) : getOf rows 7 (.ofNat i) 1 = (w, 0) := by
  show getOf rows 7 (.ofNat i) (.ofNat 1) = _
  unfold getOf; rw [objAt_at, h]; rfl
theorem IsL.walk {rows : List Ob} : ∀ (l : List V2) (f : Nat) (room : Int) (v : V2), IsL rows l v → l.length < f → (l.length : Int) ≤ room → room ≤ 1048576 → Sto.walk rows f room v = some (l, (0, 0))
  | [], f + 1, room, v, h, _, _, _ => by
    rw [show v = (0, 0) from h]; rfl
  | x :: l, f + 1, room, v, ⟨i, w, h1, h2, h3⟩, hf, hr, hm => by
    subst h1
    simp only [List.length_cons] at hf hr
    have ih := IsL.walk l f (IntKind.i64.wrap (room - 1)) w h3 (by omega) (by rw [wrap64 (by omega) (by omega)]; omega) (by rw [wrap64 (by omega) (by omega)]; omega)
    have hk : kindOf rows 7 (.ofNat i) = 1 := by unfold kindOf; rw [objAt_at, h2]
    simp only [Sto.walk, hk, pair_0 h2, pair_1 h2, ih]
    rw [leI_t (show 0 ≤ room by omega)]
    rfl
theorem ch_snd (n : Nat) {c : Nat} (h : okc c = true) : Sto.sndB n 5 (.ofNat c) = true := okc_scal h
theorem down_to {l : List Nat} (hok : ∀ c ∈ l, okc c = true) : ∀ (j : Nat) (d : Hid) (u : Int) (e : V2) (le : List V2), Okt d u → j ≤ l.length → IsL d.rows le e → u + 3 * j ≤ 20000 →
    ∃ x d', downOf (chV l) j d e = ((x, 0), d') ∧ To d d' (u + 3 * j) ∧ IsL d'.rows (chV (l.take j) ++ le) x
  | 0, d, u, e, le, ho, _, he, _ => ⟨e, d, rfl, ⟨by simpa using ho, .refl d, rfl⟩, by simpa [chV] using he⟩
  | j + 1, d, u, e, le, ho, hj, he, hf => by
    have hlt : j < l.length := by omega
    have hg : (chV l)[j]? = some (5, .ofNat l[j]) := by unfold chV; rw [List.getElem?_map, List.getElem?_eq_getElem hlt]; rfl
    have hok2 : okAll d.rows.length [(5, .ofNat l[j]), e] = true := by
      simp only [okAll, List.all_cons, List.all_nil, ch_snd _ (hok _ (List.getElem_mem hlt)), he.sndB]; rfl
    obtain ⟨d1, h1, h2, h3⟩ := mk_to ho 1 hok2 (by simp only [List.length_cons, List.length_nil]; push_cast at hf ⊢; omega)
    have he' : IsL d1.rows ((5, .ofNat l[j]) :: le) (7, .ofNat d.rows.length) := ⟨d.rows.length, e, rfl, by rw [h3]; simp, by rw [h3]; exact he.mono _⟩
    obtain ⟨x, d2, k1, k2, k3⟩ := down_to hok j d1 (u + 1 + 2) (7, .ofNat d.rows.length) _ h2.ok (by omega) he' (by push_cast at hf ⊢; omega)
    refine ⟨x, d2, ?_, ⟨?_, h2.grow.trans k2.grow, k2.names.trans h2.names⟩, ?_⟩
    · simp only [downOf, hg, h1]
      show byB (!eqI 0 0) _ (downOf (chV l) j d1 (7, .ofNat d.rows.length)) = _
      rw [k1, eqI_self]
      rfl
    · have := k2.ok
      rw [show u + 1 + 2 + 3 * (j : Int) = u + 3 * ((j + 1 : Nat) : Int) by push_cast; omega] at this
      exact this
    · rw [List.take_succ_eq_append_getElem hlt, chV_app, List.append_assoc]
      exact k3
theorem elems_of (ho : Okt d u) {q : List V2} (hv : IsL d.rows q v) (h1 : q.length < 5000) (h2 : (q.length : Int) ≤ u) (h3 : u ≤ 20000) : elemsO d v.1 v.2 = some (q, (0, 0)) ∧ elems d v.1 v.2 = (q, (0, 0)) := by
  have : elemsO d v.1 v.2 = some (q, (0, 0)) := by
    have hu : usedOf d = u := by unfold usedOf; rw [ho.nums]
    unfold elemsO
    rw [hu]
    exact hv.walk q 5000 u v h1 h2 (by omega)
  exact ⟨this, by unfold elems; rw [this]⟩
theorem IsL.snd {q : List V2} (h : IsL d.rows q v) : snd1 d v.1 v.2 = true := sndM_of h.sndB
/-! ## Numbers -/
def Num (d : Hid) (v : V2) (g : Bool) (ls : List Nat) : Prop :=
  (∃ z, v = (4, z) ∧ small z = true ∧ g = decide (z < 0) ∧ ls = limZ z.natAbs) ∨ ∃ i : Nat, v = (7, .ofNat i) ∧ d.rows[i]? = some (5, bigN (sgI g) ls) ∧ Snd g ls ∧ smallN g ls = false
theorem Num.mono {g : Bool} {ls : List Nat} (h : Num d v g ls) (k : Grw d d') : Num d' v g ls := by
  rcases h with h | ⟨i, h1, h2, h3, h4⟩
  · exact .inl h
  · exact .inr ⟨i, h1, k.at h2, h3, h4⟩
theorem Num.Snd {g : Bool} {ls : List Nat} (h : Num d v g ls) : Txt.Snd g ls := by
  rcases h with ⟨z, _, h2, rfl, rfl⟩ | ⟨i, h1, h2, h3, h4⟩
  · exact small_snd h2
  · exact h3
theorem Num.snd {g : Bool} {ls : List Nat} (h : Num d v g ls) : snd1 d v.1 v.2 = true := by
  rcases h with ⟨z, rfl, _⟩ | ⟨i, rfl, h2, _⟩
  · rfl
  · exact snd_obj (at_lt h2)
theorem Num.is {g : Bool} {ls : List Nat} (h : Num d v g ls) : numC d v.1 v.2 = true ∧ numG d v.1 v.2 = g ∧ numL d v.1 v.2 = ls := by
  rcases h with ⟨z, rfl, h2, rfl, rfl⟩ | ⟨i, rfl, h2, h3, h4⟩
  · exact ⟨h2, rfl, rfl⟩
  · have hs : slotsO d 7 (.ofNat i) = bigN (sgI g) ls := slots_at h2
    refine ⟨?_, ?_, ?_⟩
    · show (true && (eqI (kindOf d.rows 7 (.ofNat i)) 5 && bigQ (slotsO d 7 (.ofNat i)))) = true
      rw [kind_at h2, hs]
      unfold bigQ
      rw [gO_big, lsO_big, decide_eq_true rfl, snd_of h3, h4]
      have : 2 ≤ ls.length := by
        rcases Nat.lt_or_ge 2 ls.length with h | h
        · omega
        · rw [small_len h3 h] at h4; cases h4
      rw [Nat.ble_eq_true_of_le this]; rfl
    · show gO (slotsO d 7 (.ofNat i)) = g
      rw [hs, gO_big]
    · show lsO (slotsO d 7 (.ofNat i)) = ls
      rw [hs, lsO_big]
theorem int_to (ho : Okt d u) {g : Bool} {ls : List Nat} (h : Txt.Snd g ls) (hf : u + 66 ≤ 20000) :
    ∃ x d' k, intO d g ls = ((x, 0), d') ∧ To d d' (u + k) ∧ 0 ≤ k ∧ k ≤ 66 ∧ ((smallN g ls = true ∧ x = (4, svN g ls) ∧ d' = d) ∨ (smallN g ls = false ∧ Num d' x g ls)) := by
  unfold intO
  cases hs : smallN g ls with
  | true => exact ⟨(4, svN g ls), d, 0, rfl, ⟨by rw [Int.add_zero]; exact ho, .refl d, rfl⟩, by omega, by omega, .inl ⟨rfl, rfl, rfl⟩⟩
  | false =>
    have hl := h.len
    obtain ⟨d', h1, h2, h3⟩ := mk_to ho 5 (bigN_ok d.rows.length (sgI g) ls) (by rw [bigN_len]; push_cast; omega)
    rw [bigN_len] at h2
    refine ⟨_, d', ((ls.length + 1 : Nat) : Int) + 1, h1, ?_, by omega, by omega, .inr ⟨rfl, .inr ⟨_, rfl, by rw [h3]; simp, h, hs⟩⟩⟩
    rw [show u + (((ls.length + 1 : Nat) : Int) + 1) = u + 1 + ((ls.length + 1 : Nat) : Int) by omega]
    exact h2
end
end Go.Am.Txt
end
section
namespace Go.Am.Txt
open Go Go.Am Go.Proofs Go.Am.Sto
abbrev ar1 (op : Int) (v : V2) : List AV := [.hptr 0, .int .i64 op, .lst (c1A v.1 v.2) 1 true false]
abbrev ar2 (op : Int) (v w : V2) : List AV := [.hptr 0, .int .i64 op, .lst (c2A v.1 v.2 w.1 w.2) 2 true false]
section
variable {P : Program} {d : Hid} {u : Int} {v w : V2} {l m : List Nat}
theorem p40 (P : Program) (d : Hid) (v : V2) : P10t P d (ar1 40 v) = some (c40 d v.1 v.2, getV (r40 d v.1 v.2).1, (r40 d v.1 v.2).2) := rfl
theorem p44 (P : Program) (d : Hid) (v : V2) : P10t P d (ar1 44 v) = some (c44 d v.1 v.2, getV (r44 d v.1 v.2).1, (r44 d v.1 v.2).2) := rfl
theorem p45 (P : Program) (d : Hid) (v : V2) : P10t P d (ar1 45 v) = some (c45 d v.1 v.2, getV (r45 d v.1 v.2).1, (r45 d v.1 v.2).2) := rfl
theorem p43 (P : Program) (d : Hid) (v w : V2) : P10t P d (ar2 43 v w) = some (c43 d v.1 v.2 w.1 w.2, getV (rTrue d v.1 v.2 w.1 w.2).1, d) := rfl
theorem p55 (P : Program) (d : Hid) (v : V2) : P10t P d (ar1 55 v) = some (c55 d v.1 v.2, getV (r55 d v.1 v.2).1, (r55 d v.1 v.2).2) := rfl
theorem p56 (P : Program) (d : Hid) (v : V2) : P10t P d (ar1 56 v) = some (c56 P d v.1 v.2, getV (x56 P d v.1 v.2).1, (x56 P d v.1 v.2).2) := rfl
theorem p38 (P : Program) (d : Hid) (v : V2) : P10t P d (ar1 38 v) = some (c38 d v.1 v.2, getV (r38 d v.1 v.2).1, (r38 d v.1 v.2).2) := rfl
theorem p37 (P : Program) (d : Hid) (v : V2) : P10t P d (ar1 37 v) = some (c37 d v.1 v.2, getV (r37 d v.1 v.2).1, (r37 d v.1 v.2).2) := rfl
theorem p32 (P : Program) (d : Hid) (v w : V2) : P10t P d (ar2 32 v w) = some (c32 d v.1 v.2 w.1 w.2, getV (rTrue d v.1 v.2 w.1 w.2).1, d) := rfl
theorem p31 (P : Program) (d : Hid) (v w : V2) : P10t P d (ar2 31 v w) = some (c32 d v.1 v.2 w.1 w.2, getV (rTrue d v.1 v.2 w.1 w.2).1, d) := rfl
theorem p42 (P : Program) (d : Hid) (v w : V2) : P10t P d (ar2 42 v w) = some (c42 d v.1 v.2 w.1 w.2, getV (r42 d v.1 v.2 w.1 w.2).1, (r42 d v.1 v.2 w.1 w.2).2) := rfl
theorem op40 (h : Str d v l) : P10t P d (ar1 40 v) = some (true, getV ((4, .ofNat l.length), 0), d) := by
  rw [p40]
  unfold c40 r40
  rw [h.snd, h.str, h.slots, chV_length]; rfl
theorem op42 (ho : Okt d u) (h1 : Str d v l) (h2 : Str d w m) (hl : (l ++ m).length ≤ 4096) (hf : u + 1 + (l ++ m).length ≤ 20000) :
    ∃ x d', P10t P d (ar2 42 v w) = some (true, getV (x, 0), d') ∧ To d d' (u + 1 + (l ++ m).length) ∧ Str d' x (l ++ m) := by
  obtain ⟨x, d', k1, k2, k3⟩ := str_to ho (l := l ++ m) (fun c hc => (List.mem_append.1 hc).elim (h1.ok c) (h2.ok c)) hl hf
  refine ⟨x, d', ?_, k2, k3⟩
  have hc : catD d v.1 v.2 w.1 w.2 = ((x, 0), d') := by unfold catD; rw [h1.slots, h2.slots, ← chV_app]; exact k1
  rw [p42]
  unfold c42 r42 snd2
  rw [hc, h1.snd, h2.snd, h1.str, h2.str, h1.slots, h2.slots, ← chV_app, chV_length, Nat.ble_eq_true_of_le hl]; rfl
theorem op44 (ho : Okt d u) (h : Str d v l) (hf : u + 3 * l.length ≤ 20000) : ∃ x d', P10t P d (ar1 44 v) = some (true, getV (x, 0), d') ∧ To d d' (u + 3 * l.length) ∧ IsL d'.rows (chV l) x := by
  obtain ⟨x, d', k1, k2, k3⟩ := down_to h.ok l.length d u (0, 0) [] ho (Nat.le_refl _) rfl hf
  rw [List.take_length, List.append_nil] at k3
  refine ⟨x, d', ?_, k2, k3⟩
  have hr : r44 d v.1 v.2 = ((x, 0), d') := by unfold r44; rw [h.slots, chV_length]; exact k1
  rw [p44]
  unfold c44
  rw [hr, h.snd, h.str]; rfl
theorem op45 (ho : Okt d u) (hv : IsL d.rows (chV l) v) (hok : ∀ c ∈ l, okc c = true) (hl : l.length ≤ 4096) (hu : (l.length : Int) ≤ u) (hf : u + 1 + l.length ≤ 20000) :
    ∃ x d', P10t P d (ar1 45 v) = some (true, getV (x, 0), d') ∧ To d d' (u + 1 + l.length) ∧ Str d' x l := by
  obtain ⟨x, d', k1, k2, k3⟩ := str_to ho hok hl hf
  obtain ⟨e1, e2⟩ := elems_of ho hv (by rw [chV_length]; omega) (by rw [chV_length]; exact hu) (by omega)
  refine ⟨x, d', ?_, k2, k3⟩
  have hr : r45 d v.1 v.2 = ((x, 0), d') := by unfold r45; rw [e2]; exact k1
  rw [p45]
  unfold c45
  rw [hr, hv.snd, e1, e2, chV_ch hok hl]; rfl
theorem op43 (h1 : Str d v l) (h2 : Str d w l) : P10t P d (ar2 43 v w) = some (true, getV ((1, 0), 0), d) := by
  rw [p43]
  unfold c43 snd2
  rw [h1.snd, h2.snd, h1.str, h2.str, h1.slots, h2.slots, decide_eq_true rfl]; rfl
theorem op55 (ho : Okt d u) {g : Bool} {ls : List Nat} (h : Num d v g ls) (hf : u + 1 + (txN g ls).length ≤ 20000) :
    ∃ x d', P10t P d (ar1 55 v) = some (true, getV (x, 0), d') ∧ To d d' (u + 1 + (txN g ls).length) ∧ Str d' x (txN g ls) := by
  have hs := h.Snd
  have has := txN_ascii (neg := g) (ls := ls)
  have hen := enc_ascii has
  have hlen := txN_len hs
  obtain ⟨o1, x, d', k1, k2, k3⟩ := txt_to ho (l := txN g ls) (fun c hc => okc_ascii (has c hc)) (by rw [hen]; omega) hf
  rw [hen] at o1 k1
  obtain ⟨n1, n2, n3⟩ := h.is
  refine ⟨x, d', ?_, k2, k3⟩
  have hx : x55 d v.1 v.2 = txN g ls := by unfold x55; rw [n2, n3]
  rw [p55]
  unfold c55 r55
  rw [hx, k1, o1, h.snd, n1, n2, n3, snd_of hs]; rfl
theorem op56 {d : Hid} (ho : Okt d u) {g : Bool} {ls : List Nat} (hs : Txt.Snd g ls) (h : Str d v (txN g ls)) (hf : u + 66 ≤ 20000) :
    ∃ x d' k, P10t Tryz.prog d (ar1 56 v) = some (true, getV (x, 0), d') ∧ To d d' (u + k) ∧ 0 ≤ k ∧ k ≤ 66 ∧ ((smallN g ls = true ∧ x = (4, svN g ls) ∧ d' = d) ∨ (smallN g ls = false ∧ Num d' x g ls)) := by
  obtain ⟨x, d', k, k1, k2, k3, k4, k5⟩ := int_to ho hs hf
  obtain ⟨q1, q2, q3, q4, q5⟩ := parsed hs
  have ht : txtO d v.1 v.2 = txN g ls := by rw [h.txt, enc_ascii txN_ascii]
  have hx : x56 Tryz.prog d v.1 v.2 = ((x, 0), d') := by
    unfold x56
    rw [ht, q2, q3, limN_u32]; exact k1
  refine ⟨x, d', k, ?_, k2, k3, k4, k5⟩
  rw [p56]
  unfold c56
  rw [hx, ht, q1, q2, q3, q4, h.snd, h.str, snd_of hs]; rfl
theorem okName_of {l : List Nat} (h1 : 1 ≤ l.length) (h2 : l.length ≤ 64) : okName l = true := by
  cases l with
  | nil => simp at h1
  | cons a l => exact leI_t (show ((a :: l).length : Int) ≤ 64 by omega)
theorem c38_of (h : Str d v l) (h1 : 1 ≤ (l.flatMap enc).length) (h2 : (l.flatMap enc).length ≤ 64) (hy : cYs d (l.flatMap enc) = true) : c38 d v.1 v.2 = true := by
  unfold c38
  rw [h.txt, h.snd, h.str, hy, leI_t (show (1 : Int) ≤ .ofNat (l.flatMap enc).length by simp only [Int.ofNat_eq_natCast]; omega), leI_t (show Int.ofNat (l.flatMap enc).length ≤ 64 by simp only [Int.ofNat_eq_natCast]; omega)]; rfl
theorem op38a (h : Str d v l) (h1 : 1 ≤ (l.flatMap enc).length) (h2 : (l.flatMap enc).length ≤ 64) (hn : d.names = []) : P10t P d (ar1 38 v) = some (true, getV ((6, 0), 0), { d with names := [l.flatMap enc] }) := by
  have hy : cYs d (l.flatMap enc) = true := by unfold cYs; rw [hn, okName_of h1 h2]; rfl
  rw [p38, c38_of h h1 h2 hy]
  unfold r38 DYs
  rw [h.txt, hn]
theorem op38b (h : Str d v l) (h1 : 1 ≤ (l.flatMap enc).length) (h2 : (l.flatMap enc).length ≤ 64) (hn : d.names = [l.flatMap enc]) : P10t P d (ar1 38 v) = some (true, getV ((6, 0), 0), d) := by
  have hy : cYs d (l.flatMap enc) = true := by
    unfold cYs
    rw [hn, okName_of h1 h2]
    show (true && eqNs (l.flatMap enc) (byt (l.flatMap enc))) = true
    rw [byt_eq (flat_lt h.ok), eqNs_self]; rfl
  rw [p38, c38_of h h1 h2 hy]
  unfold r38 DYs
  rw [hn]
theorem snd_sym {k : List Nat} (hn : d.names = [k]) : snd1 d 6 0 = true := by unfold snd1; rw [hn]; rfl
theorem op37 (ho : Okt d u) (hok : ∀ c ∈ l, okc c = true) (hl : (l.flatMap enc).length < 2000) (hn : d.names = [l.flatMap enc]) (hf : u + 1 + l.length ≤ 20000) :
    ∃ x d', P10t P d (ar1 37 (6, 0)) = some (true, getV (x, 0), d') ∧ To d d' (u + 1 + l.length) ∧ Str d' x l := by
  obtain ⟨o1, x, d', k1, k2, k3⟩ := txt_to ho hok hl hf
  refine ⟨x, d', ?_, k2, k3⟩
  have hx : xNs d 6 0 = l.flatMap enc := by unfold xNs; rw [hn]; exact byt_eq (flat_lt hok)
  have hc : cNs d 6 0 = true := by unfold cNs; rw [hn]; rfl
  rw [p37]
  show some (c37 d 6 0, getV (r37 d 6 0).1, (r37 d 6 0).2) = _
  unfold c37 r37
  rw [snd_sym hn, hc, hx, o1, k1]; rfl
theorem op31 {k : List Nat} (hn : d.names = [k]) : P10t P d (ar2 31 (6, 0) (6, 0)) = some (true, getV ((1, 0), 0), d) := by
  rw [p31]
  show some (c32 d 6 0 6 0, _, d) = _
  unfold c32 snd2
  rw [snd_sym hn]; rfl
theorem op32 {g : Bool} {ls : List Nat} (h : Num d w g ls) (hv : (smallN g ls = true ∧ v = (4, svN g ls)) ∨ (smallN g ls = false ∧ Num d v g ls)) : P10t P d (ar2 32 v w) = some (true, getV ((1, 0), 0), d) := by
  have key : snd1 d v.1 v.2 = true ∧ eqvQ d v.1 v.2 w.1 w.2 = true := by
    rcases h with ⟨z, rfl, h2, rfl, rfl⟩ | ⟨j, rfl, h2, h3, h4⟩
    · obtain ⟨s1, s2⟩ := small_sv h2
      rcases hv with ⟨_, rfl⟩ | ⟨hv, _⟩
      · rw [s2]
        refine ⟨rfl, ?_⟩
        unfold eqvQ
        rw [sam_self]; rfl
      · rw [s1] at hv; cases hv
    · rcases hv with ⟨hv, _⟩ | ⟨_, hv⟩
      · rw [h4] at hv; cases hv
      · refine ⟨hv.snd, ?_⟩
        rcases hv with ⟨z, rfl, g2, rfl, rfl⟩ | ⟨i, rfl, g2, g3, g4⟩
        · rw [(small_sv g2).1] at h4; cases h4
        · show eqvQ d 7 (.ofNat i) 7 (.ofNat j) = true
          unfold eqvQ
          cases sam 7 (.ofNat i) 7 (.ofNat j) with
          | true => rfl
          | false =>
            have hl := h3.len
            show big2 d 7 (.ofNat i) 7 (.ofNat j) = true
            unfold big2
            rw [kind_at g2, kind_at h2, slots_at g2, slots_at h2, decide_eq_true rfl, bigN_len, Nat.ble_eq_true_of_le (show ls.length + 1 ≤ 90 by omega)]; rfl
  rw [p32]
  unfold c32 snd2
  rw [key.1, key.2, h.snd]; rfl
end
end Go.Am.Txt
end
section
namespace Go.Am.Txt
open Go Go.Am Go.Proofs Go.Am.Sto
def D16 : Live := fun i => match i with | 0 => .pack [1, 3, 4] | _ => .all
def b16 (P : Program) (g : Bool) (cs : List AV) (n : Nat) (t nl : Bool) : Option AV := bodyY P (GU H0) .none .none 5 8 D16 Res.fresh0? 80 P.funcs[16]? [.agg [.bool g, .lst cs n t nl]] St.empty
def L16 (P : Program) (rounds : Nat) : T → St → Option AV := runLoop P (GU H0) .none .none 5 8 D16 Res.fresh0? 80 16 (.pack [1, 3, 4]) 1 rounds
def t16 (n i : Int) : T := tOf 40 [(1, .ptr 0 0), (3, .int .i64 n), (4, .int .i64 i)]
def s16 (g : Bool) (l : AV) : St := ⟨1, Tr.nil.set 0 (row0 0 47 [.bool g, l])⟩
abbrev F16r : Option AV := some (.bool false)
section
variable (cs : List AV) (n i N : Nat) (t nl g : Bool)
theorem start16f : b16 Tryz.prog false cs n t nl = byB (!leI (.ofNat n) 64) F16r (byB (eqI (.ofNat n) 0) (L16 Tryz.prog 80 (t16 n 0) (s16 false (.lst cs n t nl))) (L16 Tryz.prog 80 (t16 n 0) (s16 false (.lst cs n t nl)))) := by kernel_rfl
theorem start16t : b16 Tryz.prog true cs n t nl = byB (!leI (.ofNat n) 64) F16r (byB (eqI (.ofNat n) 0) F16r (L16 Tryz.prog 80 (t16 n 0) (s16 true (.lst cs n t nl)))) := by kernel_rfl
theorem step16 : L16 Tryz.prog (N + 1) (t16 n (.ofNat i)) (s16 g (.lst cs n t nl)) = byB (!leI (.ofNat n) (.ofNat i))
    (ifK (Nat.blt i n && nonNil cs) (opt1 .u32 (fun z => byB (leI 1000000000 z) F16r (ifK (lowOkB (s16 g (.lst cs n t nl)) 1 1) (L16 Tryz.prog N (t16 n (IntKind.i64.wrap (.ofNat i + 1))) (s16 g (.lst cs n t nl))))) (cs[i * 1]?)))
    (byB (eqI (.ofNat n) 0) (some (.bool true)) (optNat (fun a => ifK (Nat.blt a n && nonNil cs) (opt1 .u32 (fun z => some (.bool (!eqI z 0))) (cs[a * 1]?))) (IntKind.i64.wrap (.ofNat n - 1)))) := by kernel_rfl
end
def top16 (ls : List Nat) : Bool := match ls.getLast? with | some x => !Nat.beq x 0 | none => true
def q16 (g : Bool) (ls : List Nat) : Bool := Nat.ble ls.length 64 && (bif Nat.beq ls.length 0 then !g else (ls.all fun x => Nat.blt x 1000000000) && top16 ls)
theorem q16_snd {g : Bool} {ls : List Nat} (h : q16 g ls = true) : Snd g ls := by
  unfold q16 at h
  rw [Bool.and_eq_true] at h
  obtain ⟨h1, h2⟩ := h
  have hl := Nat.le_of_ble_eq_true h1
  cases ls with
  | nil => exact ⟨hl, (fun x hx => by cases hx), (fun x hx => by cases hx), fun _ => by simpa using h2⟩
  | cons a l =>
    have h2 : (((a :: l).all fun x => Nat.blt x 1000000000) && top16 (a :: l)) = true := h2
    rw [Bool.and_eq_true, List.all_eq_true] at h2
    refine ⟨hl, fun x hx => ?_, fun x hx e => ?_, fun e => by cases e⟩
    · have := h2.1 x hx
      unfold LIM
      simpa using this
    · subst e
      have := h2.2
      unfold top16 at this
      rw [hx] at this
      cases this
theorem main16 {g t nl : Bool} {ls : List Nat} (hl : ls.length ≤ 64) : ∀ (N i : Nat), ls.length < i + N → i ≤ ls.length → (∀ j (hj : j < ls.length), j < i → ls[j] < 1000000000) →
    L16 Tryz.prog N (t16 ls.length (.ofNat i)) (s16 g (.lst (u32N ls) ls.length t nl)) = some (.bool (((ls.drop i).all fun x => Nat.blt x 1000000000) && top16 ls))
  | 0, i, h1, h2, _ => absurd h1 (by omega)
  | N + 1, i, h1, h2, h3 => by
    rw [step16]
    rcases Nat.lt_or_ge i ls.length with hlt | hge
    · have hb : Nat.blt i ls.length = true := Nat.ble_eq_true_of_le hlt
      rw [leI_f (show Int.ofNat i < .ofNat ls.length by simp only [Int.ofNat_eq_natCast]; omega), hb, u32N_ne' hlt, u32N_get, List.getElem?_eq_getElem hlt]
      have hd : ls.drop i = ls[i] :: ls.drop (i + 1) := List.drop_eq_getElem_cons hlt
      have hlow : lowOkB (s16 g (.lst (u32N ls) ls.length t nl)) 1 1 = true := by
        show ((true && (AV.unders 1 (u32N ls) && true)) && true) = true
        rw [u32N_unders]; rfl
      show byB (leI 1000000000 (.ofNat ls[i])) F16r _ = _
      rw [hd, List.all_cons]
      by_cases hx : ls[i] < 1000000000
      · rw [leI_f (show Int.ofNat ls[i] < 1000000000 by simp only [Int.ofNat_eq_natCast]; omega), hlow, show Nat.blt ls[i] 1000000000 = true from Nat.ble_eq_true_of_le hx, show IntKind.i64.wrap (Int.ofNat i + 1) = .ofNat (i + 1) from wI (n := i + 1) (by omega), Bool.true_and]
        exact main16 hl N (i + 1) (by omega) (by omega) fun j hj hji => by
          rcases Nat.lt_or_ge j i with h | h
          · exact h3 j hj h
          · have : j = i := by omega
            subst this; exact hx
      · rw [leI_t (show (1000000000 : Int) ≤ .ofNat ls[i] by simp only [Int.ofNat_eq_natCast]; omega)]
        have : Nat.blt ls[i] 1000000000 = false := by
          cases hq : Nat.blt ls[i] 1000000000 with
          | false => rfl
          | true => exact absurd (Nat.le_of_ble_eq_true hq) (by omega)
        rw [this]; rfl
    · have hi : i = ls.length := by omega
      subst hi
      rw [leI_t (Int.le_refl _), List.drop_length]
      cases hn : ls.length with
      | zero =>
        have : ls = [] := List.eq_nil_of_length_eq_zero hn
        subst this; rfl
      | succ k =>
        have hk : k < ls.length := by omega
        have e1 : IntKind.i64.wrap (Int.ofNat (k + 1) - 1) = .ofNat k := by
          have : Int.ofNat (k + 1) - 1 = .ofNat k := by simp only [Int.ofNat_eq_natCast]; omega
          rw [this]; exact wI (by omega)
        show optNat _ (IntKind.i64.wrap (Int.ofNat (k + 1) - 1)) = _
        rw [e1]
        show ifK (Nat.blt k (k + 1) && nonNil (u32N ls)) _ = _
        rw [show Nat.blt k (k + 1) = true from Nat.ble_eq_true_of_le (Nat.le_refl _), u32N_ne' hk, u32N_get, List.getElem?_eq_getElem hk]
        show some (AV.bool (!eqI (.ofNat ls[k]) 0)) = some (.bool (true && top16 ls))
        unfold top16
        rw [List.getLast?_eq_getElem?, hn, Nat.add_sub_cancel, List.getElem?_eq_getElem hk]; rfl
def isU0 (a : AV) : Bool := match a with | .int .u32 z => leI 0 z | _ => false
theorem isU0_back : ∀ {r : List AV}, r.all isU0 = true → r = u32N (limN r)
  | [], _ => rfl
  | a :: l, h => by
    rw [List.all_cons, Bool.and_eq_true] at h
    have ih := isU0_back h.2
    have h1 := h.1
    unfold isU0 at h1
    split at h1
    · rename_i z
      rw [leI_iff, decide_eq_true_iff] at h1
      show AV.int .u32 z :: l = AV.int .u32 (.ofNat z.toNat) :: u32N (limN l)
      rw [← ih, show Int.ofNat z.toNat = z from Int.toNat_of_nonneg h1]
    · cases h1
theorem isU0_u32 (ls : List Nat) : (u32N ls).all isU0 = true := by
  rw [List.all_eq_true]
  intro a ha
  obtain ⟨x, _, rfl⟩ := List.mem_map.1 ha
  exact leI_t (Int.natCast_nonneg x)
section
variable (c s : Bool → List AV → Nat → Bool)
def F16v : List AV → Option (Bool × AV)
  | [.agg [.bool g, .lst r k _ _]] => some (c g r k, .bool (s g r k))
  | _ => none
end
def c16 (_ : Bool) (r : List AV) (k : Nat) : Bool := r.all isU0 && Nat.beq (limN r).length k
def s16' (g : Bool) (r : List AV) (_ : Nat) : Bool := q16 g (limN r)
theorem k16 : ZOk Tryz.prog (GU H0) 16 (F16v c16 s16') := z_known (D := D16) (m := 80) (loops := 5) (n := 8) hm hn (GU_plain H0) (KnownOk.none _ _) (KnownKOk.none _) fun ar x hF => by
  unfold F16v at hF
  split at hF
  case h_2 => cases hF
  rename_i g r k t nl
  simp only [Option.some.injEq, Prod.mk.injEq] at hF
  obtain ⟨h, rfl⟩ := hF
  unfold c16 at h
  rw [Bool.and_eq_true] at h
  have hr := isU0_back h.1
  have hk := Nat.eq_of_beq_eq_true h.2
  unfold s16'
  generalize limN r = ls at *
  subst hr
  subst hk
  show b16 Tryz.prog g (u32N ls) ls.length t nl = _
  have fin : ls.length ≤ 64 → ls.length ≠ 0 → ∀ g, L16 Tryz.prog 80 (t16 ls.length 0) (s16 g (.lst (u32N ls) ls.length t nl)) = some (.bool (q16 g ls)) := fun h64 h0 g => by
    refine (main16 h64 80 0 (by omega) (by omega) fun j hj hji => absurd hji (by omega)).trans ?_
    unfold q16
    rw [Nat.ble_eq_true_of_le h64, beq_false_of_ne h0]; rfl
  by_cases h64 : ls.length ≤ 64
  · have e1 : (!leI (.ofNat ls.length) 64) = false := by rw [leI_t (show Int.ofNat ls.length ≤ 64 by simp only [Int.ofNat_eq_natCast]; omega)]; rfl
    by_cases h0 : ls.length = 0
    · have : ls = [] := List.eq_nil_of_length_eq_zero h0
      subst this
      cases g with
      | false => exact (start16f _ _ _ _).trans (main16 (ls := []) (Nat.zero_le _) 80 0 (by decide) (Nat.le_refl _) fun j hj => absurd hj (by simp))
      | true => exact (start16t _ _ _ _).trans rfl
    · have e2 : eqI (.ofNat ls.length) 0 = false := beq_false_of_ne h0
      cases g with
      | false =>
        refine (start16f _ _ _ _).trans ?_
        rw [e1, e2]
        exact fin h64 h0 false
      | true =>
        refine (start16t _ _ _ _).trans ?_
        rw [e1, e2]
        exact fin h64 h0 true
  · have e1 : (!leI (.ofNat ls.length) 64) = true := by rw [leI_f (show (64 : Int) < .ofNat ls.length by simp only [Int.ofNat_eq_natCast]; omega)]; rfl
    have e3 : q16 g ls = false := by
      unfold q16
      have : Nat.ble ls.length 64 = false := by
        cases hq : Nat.ble ls.length 64 with
        | false => rfl
        | true => exact absurd (Nat.le_of_ble_eq_true hq) h64
      rw [this]; rfl
    rw [e3]
    cases g with
    | false => exact (start16f _ _ _ _).trans (by rw [e1])
    | true => exact (start16t _ _ _ _).trans (by rw [e1])
end Go.Am.Txt
end
section
namespace Go.Am.Txt
open Go Go.Am Go.Proofs Go.Am.Sto
section
variable (g5 : List AV → Nat → Bool) (l5 : List AV → Nat → List AV) (m5 : List AV → Nat → Nat) (t5 n5 : List AV → Nat → Bool) (a5 : List AV → Nat → Int)
variable (c6 s6 : Bool → List AV → Nat → Bool)
variable (cD : Hid → List Nat → Bool) (tD nD eD : Hid → List Nat → Int) (DD : Hid → List Nat → Hid)
variable (cI : Hid → Bool → List AV → Nat → Bool) (tI nI eI : Hid → Bool → List AV → Int) (DI : Hid → Bool → List AV → Hid)
variable (c : Hid → List AV → Bool) (t n : Hid → List AV → Int) (D : Hid → List AV → Hid)
def F17v (d : Hid) : List AV → Option (Bool × AV × Hid)
  | [.hptr 0, .agg [.int .i64 5, .str bs, .bool false, .lst [] 0 true true, .lst [] 0 true true, .int .i64 0]] => some (cD d bs, .tup [.agg [.int .i64 (tD d bs), .int .i64 (nD d bs)], .int .i64 (eD d bs)], DD d bs)
  | _ => none
def X5 : Known := ((((((Known.none.add 8 (newX F8)).add 9 (pureX F9)).add 15 (wX (F15v g5 l5 m5 t5 n5 a5))).add 16 (zX (F16v c6 s6))).add 17 (methX (F17v cD tD nD eD DD))).add 18 (methX (F18v cI tI nI eI DI))).add 14 (methX (valG c t n D))
def Y5 {β : Type} : KnownK β := ((((KnownK.none.add 15 (wK (F15v g5 l5 m5 t5 n5 a5))).add 16 (zK (F16v c6 s6))).add 17 (methK (F17v cD tD nD eD DD))).add 18 (methK (F18v cI tI nI eI DI))).add 14 (methK (valG c t n D))
def b5 (P : Program) (ta ua : List Nat) (g : Bool) (r : List AV) (k : Nat) (nl : Bool) : Option AV :=
  bodyY P (GU H0) (X5 g5 l5 m5 t5 n5 a5 c6 s6 cD tD nD eD DD cI tI nI eI DI c t n D) (Y5 g5 l5 m5 t5 n5 a5 c6 s6 cD tD nD eD DD cI tI nI eI DI c t n D) 5 8 noLive Res.val? 5 P.funcs[5]? [.str ta, .str ua, .agg [.bool g, .lst r k false nl]] St.empty
end
end Go.Am.Txt
end
