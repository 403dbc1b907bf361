import Derived.Test.YtlibahklbbachaaGreatDoorRf31
import Derived.Test.YtlibahklbbachaaGreatDoorRf15
import Derived.Test.YtlibahklbbachaaGreatDoorRf29
set_option autoImplicit false
set_option maxRecDepth 100000
set_option linter.unusedSimpArgs false
set_option linter.unusedVariables false
section
namespace Go.Am
theorem z_loose {P : Program} {G : Glob} {f : FuncId} {F F' : List AV → Option (Bool × AV)} (h : ZOk P G f F) (hF : ∀ ar x, F' ar = some (true, x) → ∃ y, F ar = some (true, y) ∧ ∀ E v, VR E y v → VR E x v) : ZOk P G f F' := by
 intro args s E w vs h0 hG ha
 have k := h args s E w vs h0 hG ha
 unfold zX at k ⊢
 split
 ·rename_i ar har
  simp only [har] at k
  split
  ·rename_i p hp
   obtain ⟨c, x⟩ := p
   cases c with
   | false => trivial
   | true =>
    obtain ⟨y, hy, hv⟩ := hF ar x hp
    rw [hy] at k
    rcases k with ⟨k1, k2⟩ | ⟨v', w', E', k1, k2, k3⟩
    ·exact .inl ⟨k1, Calls.mono k2 fun e w' ⟨v', E', a1, a2, a3⟩ => ⟨v', E', a1, a2, hv _ _ a3⟩⟩
    ·exact .inr ⟨v', w', E', k1, k2, hv _ _ k3⟩
  ·trivial
 ·trivial
theorem VR.untight {E : Env} {cs : List AV} {n : Nat} {t nl : Bool} {v : Value} (h : VR E (.lst cs n t nl) v) : VR E (.lst cs n false nl) v := by
 cases h with
 | lst h hl ht hn hc hz => exact .lst h hl (fun e => by cases e) hn hc hz
end Go.Am
namespace Go.Am.Sto
open Go Go.Am Go.Proofs
theorem overwrite_one : ∀ {l : List AV} {k : Nat} (v : AV), k < l.length → overwrite l k [v] = some (l.set k v)
 | [], k, _, h => by simp at h
 | _ :: l, 0, _, _ => by simp [overwrite]
 | _ :: l, k + 1, v, h => by
  simp only [overwrite]
  rw [overwrite_one v (by simpa using h)]; rfl
theorem set_limbs {C : List AV} {k : Nat} {v : AV} (h : C.all isLimb = true) (hv : isLimb v = true) : (C.set k v).all isLimb = true := by
 rw [List.all_eq_true] at h ⊢
 intro x hx
 rcases List.mem_or_eq_of_mem_set hx with h1 | h1
 ·exact h x h1
 ·rw [h1]; exact hv
theorem mul_cell {o x y c : Int} (ho : 0 ≤ o ∧ o < 1000000000) (hx : 0 ≤ x ∧ x < 1000000000) (hy : 0 ≤ y ∧ y < 1000000000) (hc : 0 ≤ c ∧ c < 1000000000) :
  isLimb (.int .u32 (IntKind.u32.wrap ((mulV o x y c).tmod 1000000000))) = true ∧ 0 ≤ U64 ((mulV o x y c).tdiv 1000000000) ∧ U64 ((mulV o x y c).tdiv 1000000000) < 1000000000 := by
 have h1 : x * y ≤ 999999999 * 999999999 := Int.mul_le_mul (by omega) (by omega) hy.1 (by omega)
 have h0 : 0 ≤ x * y := Int.mul_nonneg hx.1 hy.1
 generalize hp : x * y = p at *
 have e : mulV o x y c = o + p + c := by
  unfold mulV U64
  rw [show IntKind.u64.wrap x = x from w64 (by omega) (by omega), show IntKind.u64.wrap y = y from w64 (by omega) (by omega), hp, show IntKind.u64.wrap p = p from w64 (by omega) (by omega), show IntKind.u64.wrap o = o from w64 (by omega) (by omega),
   show IntKind.u64.wrap (o + p) = o + p from w64 (by omega) (by omega)]
  exact w64 (by omega) (by omega)
 rw [e]
 have e1 : (o + p + c).tdiv 1000000000 = (o + p + c) / 1000000000 := Int.tdiv_eq_ediv_of_nonneg (by omega)
 have e2 : (o + p + c).tmod 1000000000 = (o + p + c) % 1000000000 := Int.tmod_eq_emod_of_nonneg (by omega)
 rw [e1, e2, show U64 ((o + p + c) / 1000000000) = (o + p + c) / 1000000000 from w64 (by omega) (by omega), w32 (by omega) (by omega)]
 refine ⟨?_, by omega, by omega⟩
 show (leI 0 ((o + p + c) % 1000000000) && !leI 1000000000 ((o + p + c) % 1000000000)) = true
 rw [leI_t (by omega), leI_f (by omega)]; rfl
theorem wrap_ij {i j : Nat} (h : i + j < 1000) : IntKind.i64.wrap (.ofNat i + .ofNat j) = .ofNat (i + j) := wrap64 (by simp only [Int.ofNat_eq_natCast]; omega) (by simp only [Int.ofNat_eq_natCast]; omega)
theorem blt_t {a b : Nat} (h : a < b) : Nat.blt a b = true := by simpa using h
theorem inner_ok {i K : Nat} {x : Int} {k : List AV → Option AV} (hK : K ≤ 100) (hx : 0 ≤ x ∧ x < 1000000000) : ∀ (b : List Int) (j : Nat) (c : Int) (C : List AV), i + j + b.length < K → lims b → (0 ≤ c ∧ c < 1000000000) → C.all isLimb = true → C.length = K →
  ∃ C2, innerT i K x k b j c C = k C2 ∧ C2.all isLimb = true ∧ C2.length = K
 | [], j, c, C, h1, h2, h3, h4, h5 => by
  have hj : i + j < K := by simpa using h1
  refine ⟨C.set (i + j) (.int .u32 (IntKind.u32.wrap c)), ?_, set_limbs h4 ?_, by rw [List.length_set, h5]⟩
  ·unfold innerT
   rw [wrap_ij (by omega)]
   show ifK (Nat.blt (i + j) K && true) (optK k (overwrite C (0 + (i + j) * 1) _)) = _
   rw [blt_t hj, show 0 + (i + j) * 1 = i + j by omega, overwrite_one _ (by omega)]; rfl
  ·rw [w32 (by omega) (by omega)]
   show (leI 0 c && !leI 1000000000 c) = true
   rw [leI_t h3.1, leI_f h3.2]; rfl
 | y :: r, j, c, C, h1, h2, h3, h4, h5 => by
  have hj : i + j + r.length + 1 < K := by simp only [List.length_cons] at h1; omega
  obtain ⟨o, e1, o0, o1⟩ := all_get h4 (i := i + j) (by omega)
  obtain ⟨q1, q2, q3⟩ := mul_cell ⟨o0, o1⟩ hx (h2 y (by simp)) h3
  obtain ⟨C2, k1, k2, k3⟩ := inner_ok (i := i) (K := K) (x := x) (k := k) hK hx r (j + 1) (U64 ((mulV o x y c).tdiv 1000000000)) (C.set (i + j) (.int .u32 (IntKind.u32.wrap ((mulV o x y c).tmod 1000000000)))) (by omega) (fun z hz => h2 z (List.mem_cons_of_mem _ hz)) ⟨q2, q3⟩ (set_limbs h4 q1) (by rw [List.length_set, h5])
  refine ⟨C2, ?_, k2, k3⟩
  rw [← k1]
  show (match IntKind.i64.wrap (.ofNat i + .ofNat j) with | .ofNat p => _ | .negSucc _ => none) = _
  rw [wrap_ij (by omega)]
  show ifK (Nat.blt (i + j) K && true) (opt1 .u32 _ (C[0 + (i + j) * 1]?)) = _
  rw [blt_t (by omega), show 0 + (i + j) * 1 = i + j by omega, e1]
  show ifK (Nat.blt (i + j) K && true) (optK _ (overwrite C (0 + (i + j) * 1) _)) = _
  rw [blt_t (by omega), show 0 + (i + j) * 1 = i + j by omega, overwrite_one (l := C) (k := i + j) _ (by omega)]; rfl
theorem ofM_ok (ng mg : Bool) {cs : List AV} {len : Nat} (hc : cs.all isLimb = true) (hl : cs.length = len) (hlen : len ≤ 64) :
  ∃ g t, ofM ng mg cs len = numR3 g (cs.take (trimA cs len)) (trimA cs len) t false 0 ∧ sndG g (cs.take (trimA cs len)) (trimA cs len) = true := by
 have hk := trimA_le cs len
 have htop := trimA_top hc len
 have hcut : cutN len 0 cs = some cs := by rw [cutN_take (by omega), ← hl, List.take_length]
 have hcut2 : cutN (trimA cs len * 1) 0 cs = some (cs.take (trimA cs len)) := by rw [Nat.mul_one]; exact cutN_take (by omega)
 have hC : cutC len cs = true := by unfold cutC; rw [Nat.ble_eq_true_of_le (show len ≤ 65 by omega), isLimb_isU hc]; rfl
 have key : ∀ s : Bool, ∃ g t, ofM.ofS cs len s = numR3 g (cs.take (trimA cs len)) (trimA cs len) t false 0 ∧ sndG g (cs.take (trimA cs len)) (trimA cs len) = true := by
  intro s
  refine ⟨bif s then !leI (.ofNat (trimA cs len)) 0 else false, Nat.beq (trimA cs len) len, ?_, ?_⟩
  ·unfold ofM.ofS
   rw [hcut]
   refine (ifK_t hC _).trans ?_
   generalize hkk : trimA cs len = k at *
   refine (byB_f (by rw [leI_t (show Int.ofNat k ≤ 64 by simp only [Int.ofNat_eq_natCast]; omega)]; rfl) _ _).trans ?_
   cases k with
   | zero => rfl
   | succ k =>
    refine (byB_f rfl _ _).trans ?_
    rw [hcut2]
    exact ifK_t (by rw [isLimb_flats (take_limbs hc _)]; simp) _
  ·generalize hkk : trimA cs len = k at *
   unfold sndG
   rw [Nat.ble_eq_true_of_le (show k ≤ 64 by omega), limbsOk_of (n := k) (cs := cs.take k) (by omega) (by rw [List.length_take]; omega) (take_limbs hc k)]
   cases k with
   | zero => cases s <;> rfl
   | succ k =>
    obtain ⟨z, e, hz⟩ := htop k (by omega) rfl
    have : (cs.take (k + 1))[k]? = some (.int .u32 z) := by rw [List.getElem?_take, if_pos (by omega), e]
    simp only [this]
    rw [eqI_neA hz]; rfl
 unfold ofM
 cases ng with
 | true => cases mg with
  | true => exact key false
  | false => exact key true
 | false => cases mg with
  | true => exact key true
  | false => exact key false
structure NumN (m : Nat) (ng : Bool) (a : List AV) (n : Nat) (nl : Bool) : Prop where
 snd : sndG ng a n = true
 le : n ≤ m
 nl : n ≠ 0 → nl = false
theorem NumN.ok {m : Nat} {ng : Bool} {a : List AV} {n : Nat} {nl : Bool} (h : NumN m ng a n nl) : a.all isLimb = true ∧ a.length = n := by
 have hs := h.snd
 unfold sndG at hs
 rw [Bool.and_eq_true, Bool.and_eq_true] at hs
 have h2 := hs.2.1
 unfold limbsOk at h2
 rw [Bool.and_eq_true, Bool.and_eq_true] at h2
 exact ⟨h2.2.2, Nat.eq_of_beq_eq_true h2.2.1⟩
theorem all_plains {a : List AV} (h : a.all isLimb = true) : AV.plains a = true := by
 induction a with
 | nil => rfl
 | cons x l ih =>
  rw [List.all_cons, Bool.and_eq_true] at h
  obtain ⟨z, rfl, _⟩ := isLimb_eq h.1
  show (true && AV.plains l) = true
  rw [ih h.2]; rfl
theorem NumN.plain {m : Nat} {ng : Bool} {a : List AV} {n : Nat} {nl : Bool} (h : NumN m ng a n nl) : AV.plains a = true := all_plains h.ok.1
theorem bothN_t {i j : Nat} {ng mg : Bool} {a b : List AV} {n m : Nat} {t1 t2 l1 l2 : Bool} (ha : NumN i ng a n l1) (hb : NumN j mg b m l2) (x : Option AV) : bothP sndG a n t1 l1 b m t2 l2 ng mg x = x := by
 unfold bothP
 refine (ifK_t (show AV.plains [.bool ng, .lst a n t1 l1] = true from ?_) _).trans ?_
 ·show (true && (AV.plains a && true)) = true
  rw [ha.plain]; rfl
 refine (ifK_t ha.snd _).trans ?_
 refine (ifK_t (show AV.plains [.bool mg, .lst b m t2 l2] = true from ?_) _).trans ?_
 ·show (true && (AV.plains b && true)) = true
  rw [hb.plain]; rfl
 exact ifK_t hb.snd _
abbrev b73s (P : Program) (ng : Bool) (a : List AV) (n : Nat) (t1 l1 : Bool) (mg : Bool) (b : List AV) (m : Nat) (t2 l2 : Bool) : Option AV := b73 sndG 74 P ng a n t1 l1 mg b m t2 l2
theorem main73 {ng : Bool} {a : List AV} {n : Nat} {t1 l1 mg t2 l2 : Bool} {b : List Int} {K : Nat} (ha : a.all isLimb = true) (hn' : a.length = n) (hn : n < 62) (hb : lims b) (hb2 : b.length ≤ 2) (hK : K = n + b.length) : ∀ (rem i N : Nat) (C : List AV), i + rem = n → rem < N → C.all isLimb = true → C.length = K →
  ∃ C2, L73 sndG 74 Tryz.prog N (tMul a n t1 l1 K (.ofNat i)) (sMul ng a n t1 l1 mg (u32s b) b.length t2 l2 K C) = ofM ng mg C2 K ∧ C2.all isLimb = true ∧ C2.length = K
 | 0, i, N, C, h1, h2, h3, h4 => by
  obtain ⟨N, rfl⟩ : ∃ X, N = X + 1 := ⟨N - 1, by omega⟩
  refine ⟨C, ?_, h3, h4⟩
  have := r73 sndG 70 N ng a n t1 l1 mg t2 l2 K C i (by omega) b hb2
  unfold st73 at this
  refine this.trans ?_
  exact byB_f (by rw [leI_t (show Int.ofNat n ≤ Int.ofNat i by simp only [Int.ofNat_eq_natCast]; omega)]; rfl) _ _
 | rem + 1, i, N, C, h1, h2, h3, h4 => by
  obtain ⟨N, rfl⟩ : ∃ X, N = X + 1 := ⟨N - 1, by omega⟩
  obtain ⟨x, e1, x0, x1⟩ := all_get ha (i := i) (by omega)
  have hne : nonNil a = true := by cases a with | nil => simp at hn'; omega | cons => rfl
  obtain ⟨C1, k1, k2, k3⟩ := inner_ok (i := i) (K := K) (x := x) (k := fun C2 => L73 sndG 74 Tryz.prog N (tMul a n t1 l1 K (IntKind.i64.wrap (.ofNat i + 1))) (sMul ng a n t1 l1 mg (u32s b) b.length t2 l2 K C2)) (by omega) ⟨x0, x1⟩ b 0 0 C (by omega) hb ⟨by omega, by omega⟩ h3 h4
  obtain ⟨C2, q1, q2, q3⟩ := main73 (ng := ng) (t1 := t1) (l1 := l1) (mg := mg) (t2 := t2) (l2 := l2) ha hn' hn hb hb2 hK rem (i + 1) N C1 (by omega) (by omega) k2 k3
  refine ⟨C2, ?_, q2, q3⟩
  have := r73 sndG 70 N ng a n t1 l1 mg t2 l2 K C i (by omega) b hb2
  unfold st73 at this
  refine this.trans ?_
  refine (byB_t (by rw [leI_f (show Int.ofNat i < Int.ofNat n by simp only [Int.ofNat_eq_natCast]; omega)]; rfl) _ _).trans ?_
  refine (ifK_t (by rw [blt_t (show i < n by omega), hne]; rfl) _).trans ?_
  rw [Nat.mul_one, e1]
  refine k1.trans ?_
  show L73 sndG 74 Tryz.prog N (tMul a n t1 l1 K (IntKind.i64.wrap (.ofNat i + 1))) _ = _
  rw [show IntKind.i64.wrap (Int.ofNat i + 1) = Int.ofNat (i + 1) from wrap64 (by simp only [Int.ofNat_eq_natCast]; omega) (by simp only [Int.ofNat_eq_natCast]; omega)]
  exact q1
theorem lim_of {b : List AV} (h : b.all isLimb = true) : ∃ l, b = u32s l ∧ l.length = b.length ∧ lims l := by
 induction b with
 | nil => exact ⟨[], rfl, rfl, fun z hz => by cases hz⟩
 | cons x r ih =>
  rw [List.all_cons, Bool.and_eq_true] at h
  obtain ⟨z, rfl, z0, z1⟩ := isLimb_eq h.1
  obtain ⟨l, e1, e2, e3⟩ := ih h.2
  refine ⟨z :: l, by rw [e1]; rfl, by simp [e2], fun y hy => ?_⟩
  rcases List.mem_cons.1 hy with rfl | hy
  ·exact ⟨z0, z1⟩
  ·exact e3 y hy
theorem mul_ok {i : Nat} (hi : i ≤ 61) {ng mg : Bool} {a b : List AV} {n m : Nat} {t1 t2 l1 l2 : Bool} (ha : NumN i ng a n l1) (hb : NumN 2 mg b m l2) :
  ∃ g r k t, b73s Tryz.prog ng a n t1 l1 mg b m t2 l2 = numR3 g r k t false 0 ∧ NumN (i + 2) g r k false := by
 obtain ⟨a1, a2⟩ := ha.ok
 obtain ⟨b1, b2⟩ := hb.ok
 obtain ⟨l, rfl, l1', l2'⟩ := lim_of b1
 have hn := ha.le
 have hm := hb.le
 have hlm : l.length = m := by omega
 subst hlm
 have hs := s73 sndG 70 ng a t1 l1 mg t2 l2 n (by omega) l (by omega)
 unfold go73 at hs
 obtain ⟨C2, q1, q2, q3⟩ := main73 (ng := ng) (t1 := t1) (l1 := l1) (mg := mg) (t2 := t2) (l2 := l2) a1 a2 (show n < 62 by omega) l2' (by omega) rfl n 0 74 (List.replicate (n + l.length) (.int .u32 0)) (by omega) (by omega)
  (by rw [List.all_eq_true]; intro x hx; rw [(List.mem_replicate.1 hx).2]; rfl) (by rw [List.length_replicate])
 obtain ⟨g, t, e1, e2⟩ := ofM_ok ng mg q2 q3 (by omega)
 refine ⟨g, _, _, t, hs.trans ((bothN_t ha hb _).trans (q1.trans e1)), e2, Nat.le_trans (trimA_le _ _) (by omega), fun _ => rfl⟩
/-! ## Contract -/
def isNt (x : Option AV) : Bool := match x with | some (.tup [.agg [.bool _, .lst _ _ _ _], .int .i64 _]) => true | _ => false
theorem isNt_eq {x : Option AV} (h : isNt x = true) : ∃ t, x = some (.tup [.agg [.bool (gO x), .lst (rO x) (kO x) t (nO x)], .int .i64 (eO x)]) := by
 unfold isNt at h
 split at h
 ·exact ⟨_, rfl⟩
 ·cases h
def ansO (x : Option AV) : AV := match x with | some v => v | none => .undef
def F73t (P : Program) : List AV → Option (Bool × AV)
 | [.agg [.bool ng, .lst a n t1 l1], .agg [.bool mg, .lst b m t2 l2]] => some (isNt (b73s P ng a n t1 l1 mg b m t2 l2), ansO (b73s P ng a n t1 l1 mg b m t2 l2))
 | _ => none
def F73 (P : Program) : List AV → Option (Bool × AV)
 | [.agg [.bool ng, .lst a n t1 l1], .agg [.bool mg, .lst b m t2 l2]] => some (isNt (b73s P ng a n t1 l1 mg b m t2 l2), valM (b73s P ng a n t1 l1 mg b m t2 l2))
 | _ => none
theorem kX73 : KnownOk Tryz.prog G0 (X73 sndG) := ((KnownOk.none _ _).add k35v).add k137
theorem kY73 {β : Type} : KnownKOk (X73 sndG) (Y73 sndG : KnownK β) := addH' (addH' (KnownKOk.none _) 35 (zK_le _)) 137 cutK_le
theorem k73t : ZOk Tryz.prog G0 73 (F73t Tryz.prog) := z_known (D := D73) (m := 74) (loops := 0) (n := 8) hm hn G0_plain kX73 kY73 fun ar x hF => by
 unfold F73t at hF
 split at hF
 case h_2 => cases hF
 rename_i ng a n t1 l1 mg b m t2 l2
 simp only [Option.some.injEq, Prod.mk.injEq] at hF
 obtain ⟨h1, rfl⟩ := hF
 obtain ⟨t, e⟩ := isNt_eq h1
 show b73s Tryz.prog ng a n t1 l1 mg b m t2 l2 = some (ansO (b73s Tryz.prog ng a n t1 l1 mg b m t2 l2))
 cases hb : b73s Tryz.prog ng a n t1 l1 mg b m t2 l2 with
 | none => rw [hb] at h1; cases h1
 | some v => rfl
theorem k73 : ZOk Tryz.prog G0 73 (F73 Tryz.prog) := z_loose k73t fun ar x hF => by
 unfold F73 at hF
 split at hF
 case h_2 => cases hF
 rename_i ng a n t1 l1 mg b m t2 l2
 simp only [Option.some.injEq, Prod.mk.injEq] at hF
 obtain ⟨h1, rfl⟩ := hF
 refine ⟨_, (by unfold F73t; simp only [h1]; rfl), fun E v hv => ?_⟩
 obtain ⟨t, e⟩ := isNt_eq h1
 generalize b73s Tryz.prog ng a n t1 l1 mg b m t2 l2 = X at *
 have hv : VR E (ansO X) v := hv
 rw [e] at hv
 unfold ansO at hv
 simp only at hv
 unfold valM
 cases hv with
 | tup hl => cases hl with
  | cons q1 q2 => cases q1 with
   | agg q1 => cases q1 with
    | cons q3 q4 => cases q4 with
     | cons q5 q6 => exact .tup (.cons (.agg (.cons q3 (.cons q5.untight q6))) q2)
end Go.Am.Sto
end
section
namespace Go.Am
theorem z_of_read {P : Program} {G : Glob} {f : FuncId} {F : List AV → Option AV} {F' : List AV → Option (Bool × AV)} (h : ReadOk P G f F) (hF : ∀ ar x, F' ar = some (true, x) → ∃ l, ar = [.agg l] ∧ F ar = some x) : ZOk P G f F' := by
 intro args s E w vs h0 hG ha
 have k := h args s E w vs h0 hG ha
 unfold zX
 split
 ·rename_i ar har
  split
  ·rename_i p hp
   obtain ⟨c, x⟩ := p
   cases c with
   | false => trivial
   | true =>
    obtain ⟨l, rfl, e⟩ := hF ar x hp
    have hargs : args = [.agg l] ∧ AV.plains l = true := by
     match args, har with
     | [], har => cases har
     | a :: r, har =>
      simp only [convZL] at har
      split at har
      ·rename_i y hy
       split at har
       ·rename_i q hq
        cases har
        have hr : r = [] := by
         cases r with
         | nil => rfl
         | cons b r =>
          simp only [convZL] at hq
          split at hq
          ·split at hq
           ·cases hq
           ·cases hq
          ·cases hq
        subst hr
        unfold convZ at hy
        split at hy
        ·split at hy
         ·split at hy
          ·rcases Bool.eq_false_or_eq_true (AV.plains ‹_›) with hb | hb
           ·rw [cond_of_true hb] at hy; cases hy
           ·rw [cond_of_false hb] at hy; cases hy
          ·cases hy
         ·cases hy
        ·rcases Bool.eq_false_or_eq_true a.plain with hb | hb
         ·rw [cond_of_true hb] at hy; cases hy; exact ⟨rfl, hb⟩
         ·rw [cond_of_false hb] at hy; cases hy
       ·cases har
      ·cases har
    obtain ⟨rfl, hp⟩ := hargs
    rw [Sto.readX_agg hp e] at k
    exact k
  ·trivial
 ·trivial
theorem z_or {P : Program} {G : Glob} {f : FuncId} {F F1 F2 : List AV → Option (Bool × AV)} (h1 : ZOk P G f F1) (h2 : ZOk P G f F2) (hF : ∀ ar x, F ar = some (true, x) → F1 ar = some (true, x) ∨ F2 ar = some (true, x)) : ZOk P G f F := by
 intro args s E w vs h0 hG ha
 have k1 := h1 args s E w vs h0 hG ha
 have k2 := h2 args s E w vs h0 hG ha
 unfold zX at k1 k2 ⊢
 split
 ·rename_i ar har
  simp only [har] at k1 k2
  split
  ·rename_i p hp
   obtain ⟨c, x⟩ := p
   cases c with
   | false => trivial
   | true =>
    rcases hF ar x hp with h | h
    ·rw [h] at k1; exact k1
    ·rw [h] at k2; exact k2
  ·trivial
 ·trivial
end Go.Am
namespace Go.Am.Sto
open Go Go.Am Go.Proofs
section
variable (sn : Bool → List AV → Nat → Bool) (g : Bool → List AV → Nat → Bool → Bool) (t : Bool → List AV → List Nat) (ac aok : List Nat → Bool) (av : List Nat → Int)
def X36w : Known := ((Known.none.add 35 (zX (F35v sn))).add 60 (readX (F60v g t))).add 59 (X59 ac aok av)
def Y36w {β : Type} : KnownK β := ((KnownK.none.add 35 (zK (F35v sn))).add 60 (txK g t)).add 59 (K59 ac aok av)
def b36 (P : Program) (neg tt nl : Bool) (cs : List AV) (n : Nat) : Option AV := bodyY P G2 (X36w sn g t ac aok av) (Y36w sn g t ac aok av) 5 8 noLive Res.fresh0? 5 P.funcs[36]? [.agg [.bool neg, .lst cs n tt nl]] St.empty
theorem t36w (neg tt nl : Bool) (cs : List AV) (n : Nat) : b36 sn g t ac aok av Tryz.prog neg tt nl cs n =
  ifK (AV.plain (.agg [.bool neg, .lst cs n tt nl])) (ifK (sn neg cs n) (byB (!leI (.ofNat n) 3) (some (.tup [.int .i64 0, .bool false])) (ifK (g neg cs n nl) (ifK (ac (t neg cs)) (byB (aok (t neg cs)) (some (.tup [.int .i64 (av (t neg cs)), .bool true])) (some (.tup [.int .i64 0, .bool false]))))))) := by kernel_rfl
end
theorem k60r_le {β : Type} (ar : List AV) (s : St) (kr kr' : Res → Option β) (h : ∀ r, Le (kr r) (kr' r)) : Le (txK gTxt3 txt3 ar s kr) (kr' (readX (F60v gTxt3 txt3) ar s)) := by
 unfold txK
 split
 ·rename_i neg cs n tt nl
  refine Le.ifK fun hc => ?_
  have hp : AV.plains [.bool neg, .lst cs n tt nl] = true := by
   unfold gTxt3 at hc
   rw [Bool.and_eq_true] at hc
   show (true && (AV.plains cs && true)) = true
   rw [NumN.plain (m := n) (nl := false) ⟨hc.1, Nat.le_refl _, fun _ => rfl⟩]; rfl
  rw [readX_agg (F := F60v gTxt3 txt3) hp (by show (bif gTxt3 neg cs n nl then some (AV.str (txt3 neg cs)) else none) = _; rw [hc]; rfl)]
  exact h _
 ·exact .none _
theorem kX36w : KnownOk Tryz.prog G2 (X36w sndG gTxt3 txt3 ac59 aok59 av59) := (((KnownOk.none _ _).add fun ar s E w vs h hG ha => k35v ar s E w vs h (G2_0 hG) ha).add k60r).add k59r
theorem kY36w {β : Type} : KnownKOk (X36w sndG gTxt3 txt3 ac59 aok59 av59) (Y36w sndG gTxt3 txt3 ac59 aok59 av59 : KnownK β) := addH' (addH' (addH' (KnownKOk.none _) 35 (zK_le _)) 60 k60r_le) 59 (K59_le _ _ _)
def sc3 (g : Bool) (r : List AV) (k : Nat) (nl : Bool) : Bool := sndG g r k && (Nat.ble 3 k && (bif Nat.beq k 3 then !nl else true))
def sb3' (g : Bool) (r : List AV) (k : Nat) (_ : Bool) : Bool := bif Nat.beq k 3 then aok59 (txt3 g r) else false
def sv3 (g : Bool) (r : List AV) (k : Nat) (_ : Bool) : Int := bif Nat.beq k 3 then bif aok59 (txt3 g r) then av59 (txt3 g r) else 0 else 0
theorem k36c : ZOk Tryz.prog G2 36 (F36w sc3 sb3' sv3) := z_known (D := noLive) (m := 5) (loops := 5) (n := 8) hm hn G2_plain kX36w kY36w fun ar x hF => by
 unfold F36w at hF
 split at hF
 case h_2 => cases hF
 rename_i g r k tt nl
 simp only [Option.some.injEq, Prod.mk.injEq] at hF
 obtain ⟨h1, rfl⟩ := hF
 unfold sc3 at h1
 rw [Bool.and_eq_true, Bool.and_eq_true] at h1
 obtain ⟨h1, h2, h3⟩ := h1
 have hN : NumN k g r k false := ⟨h1, Nat.le_refl _, fun _ => rfl⟩
 have hp : AV.plains [.bool g, .lst r k tt nl] = true := by
  show (true && (AV.plains r && true)) = true
  rw [hN.plain]; rfl
 have hk3 := Nat.le_of_ble_eq_true h2
 refine (t36w sndG gTxt3 txt3 ac59 aok59 av59 g tt nl r k).trans ((ifK_t hp _).trans ((ifK_t h1 _).trans ?_))
 by_cases h4 : k = 3
 ·subst h4
  have hg : gTxt3 g r 3 nl = true := by
   unfold gTxt3
   rw [h1, show (!nl) = true from h3]; rfl
  refine (byB_f (by rw [leI_t (show Int.ofNat 3 ≤ 3 by decide)]; rfl) _ _).trans ((ifK_t hg _).trans ((ifK_t (ac_txt3 h1) _).trans ?_))
  show byB (aok59 (txt3 g r)) _ _ = some (AV.tup [.int .i64 (bif aok59 (txt3 g r) then av59 (txt3 g r) else 0), .bool (aok59 (txt3 g r))])
  cases aok59 (txt3 g r) <;> rfl
 ·have hb : Nat.beq k 3 = false := by
   cases hq : Nat.beq k 3 with
   | false => rfl
   | true => exact absurd (Nat.eq_of_beq_eq_true hq) h4
  refine (byB_t (by rw [leI_f (show (3 : Int) < Int.ofNat k by simp only [Int.ofNat_eq_natCast]; omega)]; rfl) _ _).trans ?_
  unfold sb3' sv3
  rw [hb]; rfl
def F36d : List AV → Option (Bool × AV)
 | [.agg [.bool g, .lst r k _ nl]] => some (gTxt g r k nl, .tup [.int .i64 (valA g r), .bool true])
 | _ => none
theorem k36d : ZOk Tryz.prog G2 36 F36d := z_of_read k36 fun ar x hF => by
 unfold F36d at hF
 split at hF
 case h_2 => cases hF
 rename_i g r k tt nl
 simp only [Option.some.injEq, Prod.mk.injEq] at hF
 obtain ⟨h1, rfl⟩ := hF
 refine ⟨_, rfl, ?_⟩
 unfold F36
 simp only [h1, cond_true]
def scS (g : Bool) (r : List AV) (k : Nat) (nl : Bool) : Bool := bif Nat.ble k 2 then gTxt g r k nl else sc3 g r k nl
def sbS (g : Bool) (r : List AV) (k : Nat) (nl : Bool) : Bool := bif Nat.ble k 2 then true else sb3' g r k nl
def svS (g : Bool) (r : List AV) (k : Nat) (nl : Bool) : Int := bif Nat.ble k 2 then valA g r else sv3 g r k nl
theorem k36e : ZOk Tryz.prog G2 36 (F36w scS sbS svS) := z_or k36d k36c fun ar x hF => by
 unfold F36w at hF
 split at hF
 case h_2 => cases hF
 rename_i g r k tt nl
 simp only [Option.some.injEq, Prod.mk.injEq] at hF
 obtain ⟨h1, rfl⟩ := hF
 unfold scS at h1
 cases hb : Nat.ble k 2 with
 | true =>
  rw [hb] at h1
  refine .inl ?_
  unfold F36d sbS svS
  simp only [hb, cond_true]
  rw [show gTxt g r k nl = true from h1]
 | false =>
  rw [hb] at h1
  refine .inr ?_
  unfold F36w sbS svS
  simp only [hb, cond_false]
  rw [show sc3 g r k nl = true from h1]
theorem NumN.sc {m : Nat} {g : Bool} {r : List AV} {k : Nat} {nl : Bool} (h : NumN m g r k nl) (h0 : k = 0 → nl = true ∨ nl = false) : scS g r k nl = true := by
 obtain ⟨h1, h2⟩ := h.ok
 unfold scS
 by_cases hk : k ≤ 2
 ·rw [Nat.ble_eq_true_of_le hk]
  show gTxt g r k nl = true
  have hs := h.snd
  have hin : ∀ {z : Int}, isLimb (.int .u32 z) = true → 0 ≤ z ∧ z < 1000000000 := fun {z} hz => by
   obtain ⟨y, e, e2⟩ := isLimb_eq hz
   cases e; exact e2
  match r, h2 with
  | [], h2 =>
   subst h2
   unfold sndG at hs
   cases g with
   | true => simp at hs
   | false => rfl
  | [x], h2 =>
   subst h2
   rw [List.all_cons, Bool.and_eq_true] at h1
   obtain ⟨a, rfl, a0, a1⟩ := isLimb_eq h1.1
   have hnl := h.nl (by simp)
   subst hnl
   have ht : (!eqI a 0) = true := by
    unfold sndG at hs
    rw [Bool.and_eq_true, Bool.and_eq_true] at hs
    exact hs.2.2
   show ((((!eqI a 0 && !leI 1000000000 a) && true) && (inR a && true))) = true
   rw [ht, leI_f a1, isLimb_inR ⟨a0, a1⟩]; rfl
  | [x, y], h2 =>
   subst h2
   rw [List.all_cons, List.all_cons, Bool.and_eq_true, Bool.and_eq_true] at h1
   obtain ⟨a, rfl, a0, a1⟩ := isLimb_eq h1.1
   obtain ⟨b, rfl, b0, b1⟩ := isLimb_eq h1.2.1
   have hnl := h.nl (by simp)
   subst hnl
   have ht : (!eqI b 0) = true := by
    unfold sndG at hs
    rw [Bool.and_eq_true, Bool.and_eq_true] at hs
    exact hs.2.2
   show (((!eqI b 0 && (!leI 1000000000 a && !leI 1000000000 b)) && true) && (inR a && (inR b && true))) = true
   rw [ht, leI_f a1, leI_f b1, isLimb_inR ⟨a0, a1⟩, isLimb_inR ⟨b0, b1⟩]; rfl
  | _ :: _ :: _ :: _, h2 => simp only [List.length_cons] at h2; omega
 ·have hb : Nat.ble k 2 = false := by
   cases hq : Nat.ble k 2 with
   | false => rfl
   | true => exact absurd (Nat.le_of_ble_eq_true hq) hk
  rw [hb]
  show (sndG g r k && (Nat.ble 3 k && (bif Nat.beq k 3 then !nl else true))) = true
  rw [h.snd, Nat.ble_eq_true_of_le (show 3 ≤ k by omega), h.nl (by omega)]
  cases Nat.beq k 3 <;> rfl
end Go.Am.Sto
end
