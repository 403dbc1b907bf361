import Derived.Test.YtlibahklbbachaaGreatDoorTx9
import Derived.Test.YtlibahklbbachaaGreatDoorTx31
import Derived.Test.YtlibahklbbachaaGreatDoorTx10
import Derived.Test.YtlibahklbbachaaGreatDoorTx30
import Derived.Test.YtlibahklbbachaaGreatDoorTx23
import Derived.Test.YtlibahklbbachaaGreatDoorTx24
import Derived.Test.YtlibahklbbachaaGreatDoorTx25
import Derived.Test.YtlibahklbbachaaGreatDoorTx21
set_option autoImplicit false
set_option maxRecDepth 100000
set_option linter.unusedSimpArgs false
set_option linter.unusedVariables false
section
namespace Go.Am.Sto
open Go Go.Am Go.Proofs
def mkM (r : Nat) : Res → Option (AV × RowI × Option AObj × RowI)
  | .ret x s => some (x, rowI s 0, s.get 1, rowI s r)
  | _ => none
def runSym (P : Program) (r : Nat) (vals : List AV) (es : List (AV × AV)) (nm : List Nat) : Option (AV × RowI × Option AObj × RowI) :=
  bodyY P G0 .none .none 5 8 noLive (mkM r) 5 P.funcs[54]? [.ptr 0 0, .str nm] (St.rowsM [(66, vals)] es)
abbrev stoM (L U : Int) (ov : Value) (x : AV) : List AV := [.int .i64 L, .int .i64 U, .lit ov, x, .mp (some 1)]
def sym0 : AV := .tup [.agg [.int .i64 6, .int .i64 0], .int .i64 0]
section
variable (ov nv : Value) (L U : Int) (c : Nat) (r k : List Nat)
theorem sym00 : runSym Tryz.prog 4 (stoM L U ov mt) [] (c :: r) = byB (!leI (.ofNat (c :: r).length) 64) (some (errV 1, some (stoM L U ov mt, 66, true), some (.mapo []), none))
    (some (sym0, some (stoM L U ov (.sl 4 0 1 1 false), 66, true), some (.mapo [(.str (c :: r), .int .i64 0)]), some ([.str (c :: r)], 9, true))) := by kernel_rfl
theorem sym01 : runSym Tryz.prog 4 (stoM L U ov (.lit nv)) [(.str k, .int .i64 0)] (c :: r) = byB (!leI (.ofNat (c :: r).length) 64) (some (errV 1, some (stoM L U ov (.lit nv), 66, true), some (.mapo [(.str k, .int .i64 0)]), none))
    (ifK (eqNs (c :: r) k) (some (sym0, some (stoM L U ov (.lit nv), 66, true), some (.mapo [(.str k, .int .i64 0)]), none))) := by kernel_rfl
end
theorem of_mkM {r : Nat} {res : Res} {x : AV} {a b : RowI} {m : Option AObj} (h : mkM r res = some (x, a, m, b)) : ∃ s', res = .ret x s' ∧ rowI s' 0 = a ∧ s'.get 1 = m ∧ rowI s' r = b := by
  unfold mkM at h
  split at h
  · cases h; exact ⟨_, rfl, rfl, rfl, rfl⟩
  · cases h
end Go.Am.Sto
end
section
namespace Go.Am.Sto
open Go Go.Am Go.Proofs
def ObjPart (d : Hid) (b : Nat) (own : Nat → Prop) (w : World) (ov : Value) : Prop :=
  (d.rows = [] ∧ ov = .slice none 0 0) ∨ ∃ (bo : Nat) (ovs : List Value) (sb : Nat → Nat), d.rows ≠ [] ∧ SliceIs own w 115 10 d.rows.length ovs ov bo ∧ bo ≠ b ∧ ObjsIs own w d.rows ovs sb b bo
theorem ObjPart.keep {d d' : Hid} {b : Nat} {own own' : Nat → Prop} {w w1 : World} {ov : Value} (h : ObjPart d b own w ov) (hd : d'.rows = d.rows) (ho : ∀ c, own c → own' c) (hw : ∀ c arr ty, own c → c ≠ b → w.heap[c]? = some (.cells arr ty (0, 0)) → w1.heap[c]? = w.heap[c]?) : ObjPart d' b own' w1 ov := by
  rcases h with ⟨h7, h8⟩ | ⟨bo, ovs, sb, h7, ⟨base, cap, rfl, k1, k2, c2, k3, k4, k5⟩, h9, hob⟩
  · exact .inl ⟨hd.trans h7, h8⟩
  · refine .inr ⟨bo, ovs, sb, by rw [hd]; exact h7, ⟨base, cap, by rw [hd], by rw [hd]; exact k1, ho _ k2, c2, (hw bo c2 _ k2 h9 k3).trans k3, k4, k5⟩, h9, ?_⟩
    rw [hd]
    refine ⟨hob.len, hob.kind, fun i o hi => ?_, hob.far, hob.apart⟩
    obtain ⟨sv, q1, q2⟩ := hob.slots i o hi
    refine ⟨sv, q1, ?_⟩
    rcases q2 with q2 | ⟨h0, base, cap, e1, e2, e3, c, e4, e5⟩
    · exact .inl q2
    · exact .inr ⟨h0, base, cap, e1, e2, ho _ e3, c, (hw _ c _ e3 (hob.far i o hi h0).1 e4).trans e4, e5⟩
theorem ObjPart.one {d : Hid} {b : Nat} {own : Nat → Prop} {w : World} {ov : Value} (h : ObjPart d b own w ov) : ov.oneCell' = true := by
  rcases h with ⟨_, rfl⟩ | ⟨_, _, _, _, ⟨base, cap, rfl, _⟩, _⟩ <;> rfl
def byt (k : List Nat) : List Nat := (k.map UInt8.ofNat).map (·.toNat)
theorem byt_eq {k : List Nat} (h : ∀ c ∈ k, c < 256) : byt k = k := by
  unfold byt
  rw [List.map_map]
  have : ∀ c ∈ k, ((fun (x : UInt8) => x.toNat) ∘ UInt8.ofNat) c = c := fun c hc => by
    show (UInt8.ofNat c).toNat = c
    rw [UInt8.toNat_ofNat']
    have := h c hc
    omega
  rw [List.map_congr_left this, List.map_id']
theorem str_back {E : Env} {nm : List Nat} {v : Value} (h : VR E (.str nm) v) : v = strV nm := by
  cases h with
  | str s =>
    unfold strV
    have : (s.data.toList.map (·.toNat)).map UInt8.ofNat = s.data.toList := by
      rw [List.map_map]
      have : ∀ c ∈ s.data.toList, (UInt8.ofNat ∘ fun (x : UInt8) => x.toNat) c = c := fun c _ => by
        show UInt8.ofNat c.toNat = c
        exact UInt8.ofNat_toNat
      rw [List.map_congr_left this, List.map_id']
    rw [this]
def okName (nm : List Nat) : Bool := match nm with | [] => false | c :: r => leI (.ofNat (c :: r).length) 64
def F54 (d : Hid) : List AV → Option (Bool × AV × Hid)
  | [.hptr 0, .str nm] => match d.names with
    | [] => some (okName nm, sym0, { d with names := [nm] })
    | [k] => some (okName nm && eqNs nm (byt k), sym0, d)
    | _ => none
  | _ => none
def SeesY (_ : List AV) (d : Hid) (b : Nat) (own : Nat → Prop) (w : World) (l : List Lay) (bm : Nat) (es : List (AV × AV)) : Prop :=
  ∃ L U ov nv, d.kind = 0 ∧ d.nums = [L, U] ∧ NamesIs own w d.names nv (.map (some bm)) ∧ Fit L U d.rows.length ∧ own b ∧ ObjPart d b own w ov ∧ (∃ c, w.heap[b]? = some (.cells c 66 (0, 0))) ∧
    ((d.names = [] ∧ es = [] ∧ l = [⟨b, 0, 66, stoM L U ov mt⟩]) ∨ ∃ k, d.names = [k] ∧ es = [(.str (byt k), .int .i64 0)] ∧ l = [⟨b, 0, 66, stoM L U ov (.lit nv)⟩])
def EndsY (_ : List AV) (d d' : Hid) (l : List Lay) (es : List (AV × AV)) (s' : St) : Prop :=
  (d' = d ∧ (∃ p, l[0]? = some p ∧ rowI s' 0 = some (p.vals, 66, true)) ∧ s'.get 1 = some (.mapo es) ∧ d.names ≠ []) ∨
  ∃ nm L U ov, d.names = [] ∧ d' = { d with names := [nm] } ∧ l[0]?.map (·.vals) = some (stoM L U ov mt) ∧ rowI s' 0 = some (stoM L U ov (.sl 4 0 1 1 false), 66, true) ∧ s'.get 1 = some (.mapo [(.str nm, .int .i64 0)]) ∧ rowI s' 4 = some ([.str nm], 9, true)
theorem k54 : MethOk Tryz.prog G0 54 F54 := presM_known (D := noLive) (m := 5) (loops := 5) (n := 8) (Sees := SeesY) (Ends := EndsY) hm hn G0_plain (KnownOk.none _ _)
  (fun ar d b own w x d' hF h => by
    obtain ⟨L, U, ov, nv, mv, h1, h2, h3, hf, h4, ⟨c, g1, g2, g3⟩, h6⟩ := h
    obtain ⟨hn, bm, ents, clock, rfl, e2, e3, e4, e5⟩ := h3
    have h6 : ObjPart d b own w ov := h6
    have hbm : b ≠ bm := fun e => by rw [e, e3] at g1; cases g1
    have hloc : ∀ {v : AV} {z : Nat → Nat → Option Value}, (Env.layM [⟨b, 0, 66, stoM L U ov v⟩] bm z w G0.H).loc 1 = some (bm, 0) := fun {v z} => by simp [Env.layM, Env.add]
    have fin : ∀ (es : List (AV × AV)) (v : AV), (∀ z, VR (Env.layM [⟨b, 0, 66, stoM L U ov v⟩] bm z w G0.H) v nv) → SeesY ar d b own w [⟨b, 0, 66, stoM L U ov v⟩] bm es → (∀ E : Env, VRL E (es.map (·.1)) (ents.toList.map (·.key)) ∧ VRL E (es.map (·.2)) (ents.toList.map (·.val))) →
        ∃ l bm es ents clock, SeesY ar d b own w l bm es ∧ (∃ p, l[0]? = some p ∧ p.b = b ∧ p.base = 0) ∧ (∀ p ∈ l, own p.b) ∧ (∀ p ∈ l, LayOk (Env.layM l bm (fun _ _ => none) w G0.H) w p) ∧ (∀ (i j : Nat) (p q : Lay), l[i]? = some p → l[j]? = some q → p.b = q.b → i = j) ∧
        own bm ∧ (∀ p ∈ l, p.b ≠ bm) ∧ w.heap[bm]? = some (.map ents clock) ∧ ∀ E : Env, VRL E (es.map (·.1)) (ents.toList.map (·.key)) ∧ VRL E (es.map (·.2)) (ents.toList.map (·.val)) := fun es v hv hS hes => by
      refine ⟨_, bm, es, ents, clock, hS, ⟨_, rfl, rfl, rfl⟩, fun p hp => by simp at hp; subst hp; exact h4, fun p hp => ?_, fun i j p q hi hj _ => ?_, e2, fun p hp => by simp at hp; subst hp; exact hbm, e3, hes⟩
      · simp at hp
        subst hp
        exact ⟨c, g1, g2, _, .cons (.int _ _) (.cons (.int _ _) (.cons (.lit ov h6.one) (.cons (hv _) (.cons (.mp hloc) .nil)))), g3⟩
      · cases i with
        | zero => cases j with | zero => rfl | succ j => simp at hj
        | succ i => simp at hi
    have hN : NamesIs own w d.names nv (.map (some bm)) := ⟨hn, bm, ents, clock, rfl, e2, e3, e4, e5⟩
    unfold F54 at hF
    split at hF
    case h_2 => cases hF
    rename_i nm
    cases hd : d.names with
    | nil =>
      rcases hn with ⟨_, hnv⟩ | ⟨bn, hne, _⟩
      · refine fin [] mt (fun z => by rw [hnv]; exact .lst .nil (Nat.le_refl _) (fun _ => rfl) rfl (fun _ => rfl) (fun e => absurd rfl e)) ⟨L, U, ov, nv, h1, h2, hN, hf, h4, h6, ⟨c, g1⟩, .inl ⟨hd, rfl, rfl⟩⟩ fun E => ?_
        rw [e4, e5, hd]; exact ⟨.nil, .nil⟩
      · exact absurd hd hne
    | cons k ks =>
      rw [hd] at hF
      cases ks with
      | cons => cases hF
      | nil =>
        refine fin [(.str (byt k), .int .i64 0)] (.lit nv) (fun z => .lit nv hN.one) ⟨L, U, ov, nv, h1, h2, hN, hf, h4, h6, ⟨c, g1⟩, .inr ⟨k, hd, rfl, rfl⟩⟩ fun E => ?_
        rw [e4, e5, hd]
        exact ⟨names_VRL [k], .cons (.int _ _) .nil⟩)
  (fun d b own w l bm es ar x d' hS hF => by
    obtain ⟨L, U, ov, nv, s1, s2, s3, s4, s5, s6, _, s7⟩ := hS
    have run : ∀ {vals : List AV} {es : List (AV × AV)} {nm : List Nat} {x a m c}, runSym Tryz.prog 4 vals es nm = some (x, a, m, c) → ∃ s', bodyD Tryz.prog G0 (callN Tryz.prog G0 Known.none 5 8) noLive 5 Tryz.prog.funcs[54]? [.ptr 0 0, .str nm] (St.rowsM [(66, vals)] es) = .ret x s' ∧ rowI s' 0 = a ∧ s'.get 1 = m ∧ rowI s' 4 = c := fun h => of_mkM (bodyY_le (KnownKOk.none _) h)
    unfold F54 at hF
    split at hF
    case h_2 => cases hF
    rename_i nm
    refine ⟨[.str nm], rfl, rfl, ?_⟩
    rcases s7 with ⟨hd, rfl, rfl⟩ | ⟨k, hd, rfl, rfl⟩
    · rw [hd] at hF
      simp only [Option.some.injEq, Prod.mk.injEq] at hF
      obtain ⟨h1, rfl, rfl⟩ := hF
      cases nm with
      | nil => cases h1
      | cons c r =>
        have h1 : leI (.ofNat (c :: r).length) 64 = true := h1
        have tree := sym00 ov L U c r
        rw [h1] at tree
        obtain ⟨s', r1, r2, r3, r4⟩ := run tree
        exact ⟨rfl, s', r1, .inr ⟨c :: r, L, U, ov, hd, rfl, rfl, r2, r3, r4⟩⟩
    · rw [hd] at hF
      simp only [Option.some.injEq, Prod.mk.injEq, Bool.and_eq_true] at hF
      obtain ⟨⟨h1, h2⟩, rfl, rfl⟩ := hF
      cases nm with
      | nil => cases h1
      | cons c r =>
        have h1 : leI (.ofNat (c :: r).length) 64 = true := h1
        have tree := sym01 ov nv L U c r (byt k)
        rw [h1, h2] at tree
        obtain ⟨s', r1, r2, r3, r4⟩ := run tree
        exact ⟨rfl, s', r1, .inl ⟨rfl, ⟨_, rfl, r2⟩, r3, by rw [hd]; simp⟩⟩)
  (fun ar d d' l bm es s' b own w E' w' z hS hEnd hp0 hown hbm hs hsz hfr => by
    obtain ⟨L, U, ov, nv, s1, s2, s3, s4, s5, s6, ⟨cb, s8⟩, s7⟩ := hS
    have hl1 : l.length = 1 := by rcases s7 with ⟨_, _, rfl⟩ | ⟨_, _, _, rfl⟩ <;> rfl
    have hlb : ∀ p ∈ l, p.b = b := fun p hp => by rcases s7 with ⟨_, _, rfl⟩ | ⟨_, _, _, rfl⟩ <;> (simp at hp; subst hp; rfl)
    have hloc0 : E'.loc 0 = some (b, 0) := by
      obtain ⟨p, h1, h2, h3⟩ := hp0
      refine hs.le.loc 0 _ ?_
      show (if 0 = l.length then some (bm, 0) else (l[0]?).map _) = _
      rw [if_neg (by omega), h1]; simp [h2, h3]
    have hloc1 : E'.loc 1 = some (bm, 0) := hs.le.loc 1 _ (by show (if 1 = l.length then some (bm, 0) else _) = _; rw [if_pos hl1.symm])
    have hnew : ∀ r c base, E'.loc r = some (c, base) → w.heap.size ≤ c ∨ own c := fun r c base e => by
      rcases hs.new r c base e with h1 | ⟨r0, base0, h1⟩
      · exact .inl h1
      · rcases Env.layM_loc h1 with ⟨_, rfl, _⟩ | ⟨p, hp, rfl, _⟩
        · exact .inr hbm
        · exact .inr (hown p (List.mem_of_getElem? hp))
    obtain ⟨hnn, bm2, ents0, clock0, ebm, e2, e3, e4, e5⟩ := s3
    cases ebm
    let own' : Nat → Prop := fun c => own c ∨ ∃ r base, E'.loc r = some (c, base)
    have hl' : ∀ r c base, E'.loc r = some (c, base) → own' c := fun r c base e => .inr ⟨r, base, e⟩
    refine ⟨own', fun c hc => ?_, fun w1 hw => ?_⟩
    · rcases hc with hc | ⟨r, base, hc⟩
      · exact ⟨Nat.lt_of_lt_of_le (hsz c hc) hs.size, .inl hc⟩
      · refine ⟨(hs.rel.lt r c base hc).2, ?_⟩
        rcases hnew r c base hc with h1 | h1
        · exact .inr h1
        · exact .inl h1
    have hb' : own' b := .inl s5
    have hkeep : ∀ c arr ty, own c → c ≠ b → w.heap[c]? = some (.cells arr ty (0, 0)) → w1.heap[c]? = w.heap[c]? := fun c arr ty ho hb hc => (hw c (.inl ho)).trans (hfr c (hsz c ho) (fun p hp e => hb (by rw [← e, hlb p hp])) fun e => by subst e; rw [e3] at hc; cases hc)
    have hobj : ∀ {d' : Hid}, d'.rows = d.rows → ObjPart d' b own' w1 ov := fun hd => s6.keep hd (fun c h => .inl h) hkeep
    have store : ∀ {vals : List AV}, rowI s' 0 = some (vals, 66, true) → ∃ vs, VRL E' vals vs ∧ CellsAt w1 b 66 0 vs := fun hr => by
      obtain ⟨arr, g1, g2, g3, vs, g4, g5⟩ := row_cells hs.rel hr hloc0
      exact ⟨vs, g4, arr, by rw [hw b hb']; exact g1, by rw [← g4.length]; exact g3, g5⟩
    have hmap : ∀ {es' : List (AV × AV)}, s'.get 1 = some (.mapo es') → ∃ ents clock, w1.heap[bm]? = some (.map ents clock) ∧ VRL E' (es'.map (·.1)) (ents.toList.map (·.key)) ∧ VRL E' (es'.map (·.2)) (ents.toList.map (·.val)) := fun hr => by
      obtain ⟨ents, clock, m1, m2, m3⟩ := hs.rel.mapo 1 _ bm 0 hr hloc1
      exact ⟨ents, clock, by rw [hw bm (.inl hbm)]; exact m1, m2, m3⟩
    rcases hEnd with ⟨rfl, ⟨p, hp, hr0⟩, hr1, hne⟩ | ⟨nm, L2, U2, ov2, hd, rfl, hlv, hr0, hr1, hr4⟩
    · rcases s7 with ⟨hd, _, _⟩ | ⟨k, hd, rfl, rfl⟩
      · exact absurd hd hne
      · simp at hp
        subst hp
        obtain ⟨vs, v1, v2⟩ := store hr0
        obtain ⟨ents, clock, m1, m2, m3⟩ := hmap hr1
        cases v1 with
        | cons a1 v1 => cases v1 with
          | cons a2 v1 => cases v1 with
            | cons a3 v1 => cases v1 with
              | cons a4 v1 => cases v1 with
                | cons a5 v1 =>
                  cases v1
                  cases a1; cases a2; cases a3; cases a4
                  cases a5 with
                  | mp h5 =>
                    rw [hloc1] at h5
                    cases h5
                    refine ⟨L, U, _, _, _, s1, s2, ⟨?_, bm, ents, clock, rfl, .inl hbm, m1, ?_, ?_⟩, s4, hb', v2, hobj rfl⟩
                    · rcases hnn with hnn | ⟨bn, q1, base, cap, q2, q3, q4, c, q5, q6⟩
                      · exact .inl hnn
                      · refine .inr ⟨bn, q1, base, cap, q2, q3, .inl q4, c, (hkeep bn c _ q4 (fun e => ?_) q5).trans q5, q6⟩
                        rw [e, s8] at q5
                        simp at q5
                    · rw [hd]
                      cases hk : ents.toList.map (·.key) with
                      | nil => rw [hk] at m2; cases m2
                      | cons x xs =>
                        rw [hk] at m2
                        cases m2 with
                        | cons x1 x2 =>
                          cases x2
                          have := str_back x1
                          show [x] = [strV k]
                          rw [this]
                          unfold strV byt
                          have e : ((k.map UInt8.ofNat).map (·.toNat)).map UInt8.ofNat = k.map UInt8.ofNat := by
                            rw [List.map_map]
                            have : ∀ c ∈ k.map UInt8.ofNat, (UInt8.ofNat ∘ fun (x : UInt8) => x.toNat) c = c := fun c _ => UInt8.ofNat_toNat
                            rw [List.map_congr_left this, List.map_id']
                          rw [e]
                    · rw [hd]
                      cases hk : ents.toList.map (·.val) with
                      | nil => rw [hk] at m3; cases m3
                      | cons x xs =>
                        rw [hk] at m3
                        cases m3 with
                        | cons x1 x2 => cases x2; cases x1; rfl
    · rcases s7 with ⟨_, rfl, rfl⟩ | ⟨k, hd2, _, _⟩
      rotate_left
      · rw [hd] at hd2; cases hd2
      · simp at hlv
        obtain ⟨rfl, rfl, rfl⟩ := hlv
        obtain ⟨vs, v1, v2⟩ := store hr0
        obtain ⟨ents, clock, m1, m2, m3⟩ := hmap hr1
        cases v1 with
        | cons a1 v1 => cases v1 with
          | cons a2 v1 => cases v1 with
            | cons a3 v1 => cases v1 with
              | cons a4 v1 => cases v1 with
                | cons a5 v1 =>
                  cases v1
                  cases a1; cases a2; cases a3
                  obtain ⟨bn, base1, vs1, l1, l2, l3⟩ := sl_is hs.rel hw hl' (Nat.succ_pos _) a4 hr4
                  cases a5 with
                  | mp h5 =>
                    rw [hloc1] at h5
                    cases h5
                    refine ⟨L, U, _, _, _, s1, s2, ⟨.inr ⟨bn, by simp, ?_⟩, bm, ents, clock, rfl, .inl hbm, m1, ?_, ?_⟩, s4, hb', v2, hobj rfl⟩
                    · cases l2 with
                      | cons x1 x2 =>
                        cases x2
                        rw [str_back x1] at l3
                        exact l3
                    · cases hk : ents.toList.map (·.key) with
                      | nil => rw [hk] at m2; cases m2
                      | cons x xs =>
                        rw [hk] at m2
                        cases m2 with
                        | cons x1 x2 =>
                          cases x2
                          show [x] = [strV nm]
                          rw [str_back x1]
                    · cases hk : ents.toList.map (·.val) with
                      | nil => rw [hk] at m3; cases m3
                      | cons x xs =>
                        rw [hk] at m3
                        cases m3 with
                        | cons x1 x2 => cases x2; cases x1; rfl)
end Go.Am.Sto
end
section
namespace Go.Am.Sto
open Go Go.Am Go.Proofs
theorem nam1 (L U : Int) (cs : List AV) (n : Nat) (fl gt : Bool) (u : AV) (k : List Nat) (t2 f2 : Bool) : look Tryz.prog H0 94 L U cs n fl [val 6 0] u (.lst [.str k] 1 t2 f2) gt = some (.tup [.str k, .int .i64 0]) := by kernel_rfl
def F94 (d : Hid) : List AV → Option (Bool × AV × Hid)
  | [.hptr 0, .agg [.int .i64 6, .int .i64 (.ofNat 0)]] => match d.names with
    | [k] => some (true, .tup [.str (byt k), .int .i64 0], d)
    | _ => none
  | _ => none
theorem k94 : MethOk Tryz.prog G0 94 F94 := see_known (D := noLive) (m := 0) (loops := 0) (n := 5) hm hn G0_plain (KnownOk.none _ _) (KnownKOk.none _) H0_view fun d cs ar x d' hv hF => by
  obtain ⟨L, U, rs, h1, h2, rfl⟩ := hv
  unfold F94 at hF
  split at hF
  · split at hF
    · rename_i k hk
      cases hF
      rw [hk]
      exact ⟨_, rfl, rfl, rfl, rfl, nam1 L U _ _ _ _ _ (byt k) _ _⟩
    · cases hF
  · cases hF
end Go.Am.Sto
end
section
namespace Go.Am.Txt
open Go Go.Am Go.Proofs Go.Am.Sto
section
variable (cW : Hid → List Nat → Bool) (tW nW : Hid → List Nat → Int) (DW : Hid → List Nat → Hid)
def F95v (d : Hid) : List AV → Option (Bool × AV × Hid)
  | [.ptrL [.hptr 0, u] 0, .str bs] => some (cW d bs && AV.under 2 (.ptrL [.hptr 0, u] 0), val (tW d bs) (nW d bs), DW d bs)
  | _ => none
variable (cT : Hid → Int → Int → Bool) (xT : Hid → Int → Int → List Nat)
def F96v (d : Hid) : List AV → Option (Bool × AV × Hid)
  | [.ptrL [.hptr 0, .lst [.int .i64 a, .int .i64 b] 1 _ false] 0, .int .i64 (.ofNat 0)] => some (cT d a b, .str (xT d a b), d)
  | _ => none
variable (cY : Hid → List Nat → Bool) (tY nY : Hid → List Nat → Int) (DY : Hid → List Nat → Hid)
def F54v (d : Hid) : List AV → Option (Bool × AV × Hid)
  | [.hptr 0, .str nm] => some (cY d nm, .tup [.agg [.int .i64 (tY d nm), .int .i64 (nY d nm)], .int .i64 0], DY d nm)
  | _ => none
variable (cN : Hid → Int → Int → Bool) (xN : Hid → Int → Int → List Nat)
def F94v (d : Hid) : List AV → Option (Bool × AV × Hid)
  | [.hptr 0, .agg [.int .i64 a, .int .i64 b]] => some (cN d a b, .tup [.str (xN d a b), .int .i64 0], d)
  | _ => none
variable (cI : Hid → Bool → List AV → Nat → Bool) (tI nI eI : Hid → Bool → List AV → Int) (DI : Hid → Bool → List AV → Hid)
def F18v (d : Hid) : List AV → Option (Bool × AV × Hid)
  | [.hptr 0, .agg [.bool g, .lst r k _ _]] => some (cI d g r k, .tup [.agg [.int .i64 (tI d g r), .int .i64 (nI d g r)], .int .i64 (eI d g r)], DI d g r)
  | _ => none
variable (cB gB : Hid → Int → Int → Bool) (lB : Hid → Int → Int → List AV) (mB : Hid → Int → Int → Nat) (zB : Hid → Int → Int → Bool)
def F114v (d : Hid) : List AV → Option (Bool × AV × Hid)
  | [.hptr 0, .agg [.int .i64 a, .int .i64 b]] => some (cB d a b, .tup [.agg [.bool (gB d a b), .lst (lB d a b) (mB d a b) false (zB d a b)], .int .i64 0], d)
  | _ => none
variable (tx : Bool → List AV → List Nat) (gX : Bool → List AV → Nat → Bool)
variable (gP ngP : List Nat → Bool) (lsP : List Nat → List AV) (lnP : List Nat → Nat) (emP : List Nat → Bool)
variable (ev : Hid → Int → Int → Int → Int → Bool) (eq : List AV → List AV → Nat → Nat → Bool)
def F102w : List AV → Option (Bool × AV)
  | [.str l] => some (gP l, .tup [.agg [.bool (ngP l), .lst (lsP l) (lnP l) (emP l) (emP l)], .bool true])
  | _ => none
def F60w : List AV → Option (Bool × AV)
  | [.agg [.bool neg, .lst cs n _ _]] => some (gX neg cs n, .str (tx neg cs))
  | _ => none
def F115w (d : Hid) : List AV → Option (Bool × AV × Hid)
  | [.hptr 0, .agg [.int .i64 a, .int .i64 b], .agg [.int .i64 c, .int .i64 e]] => some (ev d a b c e, .bool true, d)
  | _ => none
def F99w : List AV → Option (Bool × AV)
  | [.lst cs m _ _, .lst cs2 n _ _] => some (eq cs cs2 m n, .bool true)
  | _ => none
def XA : Known := (((((((Known.none.add 83 (methX F83)).add 93 (methX F93)).add 41 (ifX is24 (methX F41m) (wX F41c))).add 84 (methX F84)).add 86 (methX F86)).add 38 (methX F38t)).add 22 (pureX F22)).add 99 (wX (F99w eq))
def YA {β : Type} : KnownK β := (((((((KnownK.none.add 83 (methK F83)).add 93 (methK F93)).add 41 (ifKn is24 (methK F41m) (wK F41c))).add 84 (methK F84)).add 86 (methK F86)).add 38 (methK F38t)).add 22 (pureK F22)).add 99 (wK (F99w eq))
def XB : Known := (((((((((XA eq).add 95 (methX (F95v cW tW nW DW))).add 96 (methX (F96v cT xT))).add 54 (methX (F54v cY tY nY DY))).add 94 (methX (F94v cN xN))).add 18 (methX (F18v cI tI nI eI DI))).add 114 (methX (F114v cB gB lB mB zB))).add 60 (wX (F60w tx gX))).add 102 (wX (F102w gP ngP lsP lnP emP))).add 115 (methX (F115w ev))
def YB {β : Type} : KnownK β := (((((((((YA eq).add 95 (methK (F95v cW tW nW DW))).add 96 (methK (F96v cT xT))).add 54 (methK (F54v cY tY nY DY))).add 94 (methK (F94v cN xN))).add 18 (methK (F18v cI tI nI eI DI))).add 114 (methK (F114v cB gB lB mB zB))).add 60 (wK (F60w tx gX))).add 102 (wK (F102w gP ngP lsP lnP emP))).add 115 (methK (F115w ev))
def apB (P : Program) (d : Hid) (op : Int) (cs : List AV) (n : Nat) (tt : Bool) : Option R :=
  bodyY P (GU H0) (XB cW tW nW DW cT xT cY tY nY DY cN xN cI tI nI eI DI cB gB lB mB zB tx gX gP ngP lsP lnP emP ev eq) (YB cW tW nW DW cT xT cY tY nY DY cN xN cI tI nI eI DI cB gB lB mB zB tx gX gP ngP lsP lnP emP ev eq) 90 20 noLive Res.meth? 100 P.funcs[10]? [.hptr 0, .int .i64 op, .lst cs n tt false] (St.one d)
end
end Go.Am.Txt
end
section
namespace Go.Am.Txt
open Go Go.Am Go.Proofs Go.Am.Sto
abbrev okq (d : Hid) (cs : List AV) (n : Nat) : Bool := isCells cs n && (Nat.ble n 4500 && okM d (ofCells cs))
abbrev mV (D : (V2 × Int) × Hid) : Option R := byB (!eqI D.1.2 0) (gV D.2 0 0 D.1.2) (gV D.2 D.1.1.1 D.1.1.2 0)
abbrev listB (d : Hid) (a b : Int) : Bool := (elemsO d a b).isSome && true
abbrev list45 (l : List V2) (d : Hid) : Option R := ifK (AV.plains [lstA l, .fn (.func 100) [] []]) (ifK (isCells (cellsA l) l.length && (Nat.ble l.length 4500 && all5 (ofCells (cellsA l)))) (byB (!leI (.ofNat l.length) 4096) (gV d 0 0 6)
  (ifK (AV.plain (lstA l)) (ifK (isCells (cellsA l) l.length && (Nat.ble l.length 4500 && (okAll d.rows.length (ofCells (cellsA l)) && (bif l.length.beq 0 then l.isEmpty else !l.isEmpty)))) (mV (mkOf d 4 (ofCells (cellsA l))))))))
section
variable (cW : Hid → List Nat → Bool) (tW nW : Hid → List Nat → Int) (DW : Hid → List Nat → Hid)
variable (cT : Hid → Int → Int → Bool) (xT : Hid → Int → Int → List Nat)
variable (cY : Hid → List Nat → Bool) (tY nY : Hid → List Nat → Int) (DY : Hid → List Nat → Hid)
variable (cN : Hid → Int → Int → Bool) (xN : Hid → Int → Int → List Nat)
variable (cI : Hid → Bool → List AV → Nat → Bool) (tI nI eI : Hid → Bool → List AV → Int) (DI : Hid → Bool → List AV → Hid)
variable (cB gB : Hid → Int → Int → Bool) (lB : Hid → Int → Int → List AV) (mB : Hid → Int → Int → Nat) (zB : Hid → Int → Int → Bool)
variable (tx : Bool → List AV → List Nat) (gX : Bool → List AV → Nat → Bool)
variable (gP ngP : List Nat → Bool) (lsP : List Nat → List AV) (lnP : List Nat → Nat) (emP : List Nat → Bool)
variable (ev : Hid → Int → Int → Int → Int → Bool) (eq : List AV → List AV → Nat → Nat → Bool)
variable (d : Hid) (a b c e : Int) (tt : Bool)
theorem tp40 : apB cW tW nW DW cT xT cY tY nY DY cN xN cI tI nI eI DI cB gB lB mB zB tx gX gP ngP lsP lnP emP ev eq Tryz.prog d 40 (c1A a b) 1 tt = ifK (okq d (c1A a b) 1) (strK d a b (gV d 0 0 10) (gV d 4 (.ofNat (slotsO d a b).length) 0)) := by kernel_rfl
theorem tp44 : apB cW tW nW DW cT xT cY tY nY DY cN xN cI tI nI eI DI cB gB lB mB zB tx gX gP ngP lsP lnP emP ev eq Tryz.prog d 44 (c1A a b) 1 tt = ifK (okq d (c1A a b) 1) (strK d a b (gV d 0 0 10) (ifK (AV.plain (lstA (slotsO d a b))) (ifK (isCells (cellsA (slotsO d a b)) (slotsO d a b).length && (Nat.ble (slotsO d a b).length 4500 && (no6 (ofCells (cellsA (slotsO d a b))) && true))) (mV (downOf (ofCells (cellsA (slotsO d a b))) (slotsO d a b).length d (0, 0)))))) := by kernel_rfl
theorem tp45 : apB cW tW nW DW cT xT cY tY nY DY cN xN cI tI nI eI DI cB gB lB mB zB tx gX gP ngP lsP lnP emP ev eq Tryz.prog d 45 (c1A a b) 1 tt = ifK (okq d (c1A a b) 1) (ifK (listB d a b) (byB (eqI (elems d a b).2.1 0) (list45 (elems d a b).1 d) (gV d 0 0 10))) := by kernel_rfl
theorem tp43 : apB cW tW nW DW cT xT cY tY nY DY cN xN cI tI nI eI DI cB gB lB mB zB tx gX gP ngP lsP lnP emP ev eq Tryz.prog d 43 (c2A a b c e) 2 tt = ifK (okq d (c2A a b c e) 2) (strK d a b (gV d 0 0 10) (strK d c e (gV d 0 0 10) (ifK (AV.plains [lstA (slotsO d a b), lstA (slotsO d c e)]) (ifK (eq (cellsA (slotsO d a b)) (cellsA (slotsO d c e)) (slotsO d a b).length (slotsO d c e).length) (gV d 1 0 0))))) := by kernel_rfl
theorem tp55 : apB cW tW nW DW cT xT cY tY nY DY cN xN cI tI nI eI DI cB gB lB mB zB tx gX gP ngP lsP lnP emP ev eq Tryz.prog d 55 (c1A a b) 1 tt = ifK (okq d (c1A a b) 1) (ifK (cB d a b) (ifK (AV.plains [.agg [.bool (gB d a b), .lst (lB d a b) (mB d a b) false (zB d a b)]]) (ifK (gX (gB d a b) (lB d a b) (mB d a b)) (ifK (cW d (tx (gB d a b) (lB d a b)) && true) (gV (DW d (tx (gB d a b) (lB d a b))) (tW d (tx (gB d a b) (lB d a b))) (nW d (tx (gB d a b) (lB d a b))) 0))))) := by kernel_rfl
theorem tp56 : apB cW tW nW DW cT xT cY tY nY DY cN xN cI tI nI eI DI cB gB lB mB zB tx gX gP ngP lsP lnP emP ev eq Tryz.prog d 56 (c1A a b) 1 tt = ifK (okq d (c1A a b) 1) (ifK (cT d a b) (ifK (gP (xT d a b)) (ifK (AV.plain (.agg [.bool (ngP (xT d a b)), .lst (lsP (xT d a b)) (lnP (xT d a b)) (emP (xT d a b)) (emP (xT d a b))])) (ifK (cI d (ngP (xT d a b)) (lsP (xT d a b)) (lnP (xT d a b))) (byB (!eqI (eI d (ngP (xT d a b)) (lsP (xT d a b))) 0) (gV (DI d (ngP (xT d a b)) (lsP (xT d a b))) 0 0 (eI d (ngP (xT d a b)) (lsP (xT d a b)))) (gV (DI d (ngP (xT d a b)) (lsP (xT d a b))) (tI d (ngP (xT d a b)) (lsP (xT d a b))) (nI d (ngP (xT d a b)) (lsP (xT d a b))) 0)))))) := by kernel_rfl
theorem tp38 : apB cW tW nW DW cT xT cY tY nY DY cN xN cI tI nI eI DI cB gB lB mB zB tx gX gP ngP lsP lnP emP ev eq Tryz.prog d 38 (c1A a b) 1 tt = ifK (okq d (c1A a b) 1) (ifK (cT d a b) (byB (!leI 1 (.ofNat (xT d a b).length)) (gV d 0 0 12) (byB (!leI (.ofNat (xT d a b).length) 64) (gV d 0 0 12) (ifK (cY d (xT d a b)) (gV (DY d (xT d a b)) (tY d (xT d a b)) (nY d (xT d a b)) 0))))) := by kernel_rfl
theorem tp37 : apB cW tW nW DW cT xT cY tY nY DY cN xN cI tI nI eI DI cB gB lB mB zB tx gX gP ngP lsP lnP emP ev eq Tryz.prog d 37 (c1A a b) 1 tt = ifK (okq d (c1A a b) 1) (ifK (cN d a b) (ifK (cW d (xN d a b) && true) (gV (DW d (xN d a b)) (tW d (xN d a b)) (nW d (xN d a b)) 0))) := by kernel_rfl
theorem tp32 : apB cW tW nW DW cT xT cY tY nY DY cN xN cI tI nI eI DI cB gB lB mB zB tx gX gP ngP lsP lnP emP ev eq Tryz.prog d 32 (c2A a b c e) 2 tt = ifK (okq d (c2A a b c e) 2) (ifK (ev d a b c e) (gV d 1 0 0)) := by kernel_rfl
theorem tp31 : apB cW tW nW DW cT xT cY tY nY DY cN xN cI tI nI eI DI cB gB lB mB zB tx gX gP ngP lsP lnP emP ev eq Tryz.prog d 31 (c2A a b c e) 2 tt = ifK (okq d (c2A a b c e) 2) (ifK (ev d a b c e) (gV d 1 0 0)) := by kernel_rfl
end
section
variable (cC : Hid → Int → Int → Int → Int → Bool) (tC nC : Hid → Int → Int → Int → Int → Int) (DC : Hid → Int → Int → Int → Int → Hid)
def F47v (d : Hid) : List AV → Option (Bool × AV × Hid)
  | [.ptrL [.hptr 0, .lst [.int .i64 a, .int .i64 b, .int .i64 c, .int .i64 e] 2 _ false] 0, .int .i64 (.ofNat 42)] => some (cC d a b c e, val (tC d a b c e) (nC d a b c e), DC d a b c e)
  | _ => none
def XC : Known := ((Known.none.add 41 (methX F41m)).add 22 (pureX F22)).add 47 (methX (F47v cC tC nC DC))
def YC {β : Type} : KnownK β := ((KnownK.none.add 41 (methK F41m)).add 22 (pureK F22)).add 47 (methK (F47v cC tC nC DC))
def apC (P : Program) (d : Hid) (op : Int) (cs : List AV) (n : Nat) (tt : Bool) : Option R := bodyY P (GU H0) (XC cC tC nC DC) (YC cC tC nC DC) 90 20 noLive Res.meth? 100 P.funcs[10]? [.hptr 0, .int .i64 op, .lst cs n tt false] (St.one d)
theorem tp42 (d : Hid) (a b c e : Int) (tt : Bool) : apC cC tC nC DC Tryz.prog d 42 (c2A a b c e) 2 tt = ifK (okq d (c2A a b c e) 2) (ifK (cC d a b c e) (gV (DC d a b c e) (tC d a b c e) (nC d a b c e) 0)) := by kernel_rfl
end
end Go.Am.Txt
end
section
namespace Go.Am.Txt
open Go Go.Am Go.Proofs Go.Am.Sto
def X47 : Known := (((Known.none.add 83 (methX F83)).add 93 (methX F93)).add 41 (wX F41c)).add 38 (methX F38t)
def Y47 {β : Type} : KnownK β := (((KnownK.none.add 83 (methK F83)).add 93 (methK F93)).add 41 (wK F41c)).add 38 (methK F38t)
def D47 : Live := fun i => match i with | 1 => .pack [0, 4, 9, 102, 103] | _ => .all
def L47 (P : Program) (rounds : Nat) : T → St → Option R := runLoopN P (GU H0) X47 Y47 5 8 D47 0 Res.meth? 50 47 (.pack [0, 4, 9, 102, 103]) 2 rounds
def b47 (P : Program) (d : Hid) (u : AV) (op : Int) : Option R := bodyY P (GU H0) X47 Y47 5 8 D47 Res.meth? 50 P.funcs[47]? [.ptrL [.hptr 0, u] 0, .int .i64 op] (St.one d)
def t47 (u all : AV) (n i : Int) : T := tOf 215 [(0, .ptrL [.hptr 0, u] 0), (4, .ptr 1 0), (9, all), (102, .int .i64 n), (103, .int .i64 i)]
section
variable (d : Hid) (a b c e : Int) (tt : Bool) (N j : Nat) (C : List AV)
abbrev u22 (a b c e : Int) (tt : Bool) : AV := .lst (c2A a b c e) 2 tt false
abbrev appT (d : Hid) (a b : Int) (K0 : Option R) (K1 : List AV → Option R) : Option R := strK d a b none (ifK (Nat.ble (0 + (slotsO d a b).length) 1073741824) (optK (fun new => ifK (new.all AV.single)
  (byB (Nat.beq (slotsO d a b).length 0) K0 (optK (fun v => ifK (nonNil v && AV.plains v) (K1 v)) (Go.Am.cutX (0 + (slotsO d a b).length) 2 0 new)))) (cutN ((slotsO d a b).length * 2) 0 (cellsA (slotsO d a b)))))
theorem start47 : b47 Tryz.prog d (u22 a b c e tt) 42 = L47 Tryz.prog 50 (t47 (u22 a b c e tt) mt 2 0) (st0W d) := by kernel_rfl
theorem step47a : L47 Tryz.prog (N + 1) (t47 (u22 a b c e tt) mt 2 0) (st0W d) = appT d a b (L47 Tryz.prog N (t47 (u22 a b c e tt) mt 2 1) (st0W d))
    (fun v => L47 Tryz.prog N (t47 (u22 a b c e tt) (.sl 2 0 (0 + (slotsO d a b).length) 2 false) 2 1) (stW d v)) := by kernel_rfl
theorem step47b : L47 Tryz.prog (N + 1) (t47 (u22 a b c e tt) mt 2 1) (st0W d) = appT d c e (L47 Tryz.prog N (t47 (u22 a b c e tt) mt 2 2) (st0W d))
    (fun v => L47 Tryz.prog N (t47 (u22 a b c e tt) (.sl 2 0 (0 + (slotsO d c e).length) 2 false) 2 2) (stW d v)) := by kernel_rfl
theorem step47c : L47 Tryz.prog (N + 1) (t47 (u22 a b c e tt) (.sl 2 0 (j + 1) 2 false) 2 1) (stW d C) = strK d c e none (ifK (Nat.ble (j + 1 + (slotsO d c e).length) 1073741824) (optK (fun new => ifK (new.all AV.single)
    (byB (Nat.beq (slotsO d c e).length 0) (optK (fun v => ifK (nonNil v && AV.plains v) (L47 Tryz.prog N (t47 (u22 a b c e tt) (.sl 2 0 (j + 1) 2 false) 2 2) (stW d v))) (cutN ((j + 1) * 2) 0 C))
      (optK (fun old => ifK (newest C.length ((j + 1) * 2)) (optK (fun v => ifK (nonNil v && AV.plains v) (L47 Tryz.prog N (t47 (u22 a b c e tt) (.sl 2 0 (j + 1 + (slotsO d c e).length) 2 false) 2 2) (stW d v))) (Go.Am.cutX (j + 1 + (slotsO d c e).length) 2 0 (old ++ new)))) (cutN ((j + 1) * 2) 0 C))))
    (cutN ((slotsO d c e).length * 2) 0 (cellsA (slotsO d c e))))) := by kernel_rfl
theorem end47a : L47 Tryz.prog (N + 1) (t47 (u22 a b c e tt) mt 2 2) (st0W d) = madeT d [] := by kernel_rfl
theorem end47b : L47 Tryz.prog (N + 1) (t47 (u22 a b c e tt) (.sl 2 0 (j + 1) 2 false) 2 2) (stW d C) = byB (!leI (.ofNat (j + 1)) 4096) none (optK (fun v => ifK (Nat.blt 0 (j + 1) && AV.plains v) (mkT d v (j + 1))) (cutN ((j + 1) * 2) 0 C)) := by kernel_rfl
end
end Go.Am.Txt
end
section
namespace Go.Am.Txt
open Go Go.Am Go.Proofs Go.Am.Sto
def outW (b : Nat) (acc : List Nat) : AV := match acc with | [] => mt | _ :: r => .sl b 0 (r.length + 1) 2 false
def stAW (d : Hid) (acc : List Nat) : St := match acc with | [] => st0W d | c :: r => stW d (cellsA (chV (c :: r)))
theorem outW_snoc (b : Nat) (acc : List Nat) (c : Nat) : outW b (acc ++ [c]) = .sl b 0 (acc.length + 1) 2 false := by cases acc <;> simp [outW]
theorem stAW_snoc (d : Hid) (acc : List Nat) (c : Nat) : stAW d (acc ++ [c]) = stW d (cellsA (chV (acc ++ [c]))) := by cases acc <;> rfl
theorem chV_app (l m : List Nat) : chV (l ++ m) = chV l ++ chV m := List.map_append
theorem chV_length (l : List Nat) : (chV l).length = l.length := List.length_map _
theorem ints_at (l : List Nat) (i : Nat) (hi : i < l.length) : (intsN l)[i * 1]? = some (.int .i64 (.ofNat l[i])) := by
  unfold intsN
  rw [Nat.mul_one, List.getElem?_map, List.getElem?_eq_getElem hi]; rfl
theorem cells_ne {l : List Nat} (h : l ≠ []) : nonNil (cellsA (chV l)) = true := by cases l with | nil => exact absurd rfl h | cons => rfl
theorem chV_okAll (n : Nat) {l : List Nat} (h : ∀ c ∈ l, okc c = true) : okAll n (chV l) = true := by
  unfold okAll chV
  rw [List.all_eq_true]
  intro p hp
  obtain ⟨c, hc, rfl⟩ := List.mem_map.1 hp
  show sndB n 5 (.ofNat c) = true
  exact okc_scal (h c hc)
theorem mkT_ok (d : Hid) {l : List Nat} (h : ∀ c ∈ l, okc c = true) (hl : l.length ≤ 4500) : mkT d (cellsA (chV l)) l.length = madeT d (chV l) := by
  unfold mkT
  rw [ofCells_cells, chV_okAll _ h, Nat.ble_eq_true_of_le hl, ← chV_length l, isCells_cells]; rfl
section
variable (g : List AV → Nat → Bool) (ls : List AV → List AV) (ln : List AV → Nat) (e : List AV → Bool)
theorem main95 (d : Hid) (u : AV) (hu : AV.under 2 (.ptrL [.hptr 0, u] 0) = true) (tt nl : Bool) (l : List Nat) (hok : ∀ c ∈ l, okc c = true) (hlen : l.length ≤ 4096) : ∀ (N i : Nat) (acc : List Nat), acc = l.take i → l.length < i + N → i ≤ l.length →
    L95 g ls ln e Tryz.prog N (t95 u (outW 2 acc) (.lst (intsN l) l.length tt nl) l.length (.ofNat i)) (stAW d acc) = madeT d (chV l)
  | 0, i, _, _, h1, h2 => absurd h1 (by omega)
  | N + 1, i, acc, hacc, h1, h2 => by
    rcases Nat.lt_or_ge i l.length with hlt | hge
    · have hb : (!leI (.ofNat l.length) (.ofNat i)) = true := by rw [leI_f (by simp only [Int.ofNat_eq_natCast]; omega)]; rfl
      have hne : l ≠ [] := fun h => by rw [h] at hlt; cases hlt
      have hbl : (Nat.blt i l.length && nonNil (intsN l)) = true := by rw [intsN_ne hne, show Nat.blt i l.length = true from Nat.ble_eq_true_of_le hlt]; rfl
      have hul : AV.under 2 (.lst (intsN l) l.length tt nl) = true := intsN_unders _ _
      have ew : IntKind.i64.wrap (Int.ofNat i + 1) = .ofNat (i + 1) := wI (n := i + 1) (by omega)
      have hta : acc ++ [l[i]] = l.take (i + 1) := by rw [hacc, List.take_add_one, List.getElem?_eq_getElem hlt]; rfl
      have hal : acc.length = i := by rw [hacc, List.length_take]; omega
      have go := main95 d u hu tt nl l hok hlen N (i + 1) (acc ++ [l[i]]) hta (by omega) (by omega)
      rw [outW_snoc, stAW_snoc] at go
      cases acc with
      | nil =>
        refine (step95a _ _ _ _ _ _ _ _ _ _ _ _).trans ?_
        rw [hb, hbl, ints_at l i hlt]
        show ifK (AV.under 2 (.ptrL [.hptr 0, u] 0)) _ = _
        rw [hu]
        show ifK (AV.under 2 (.lst _ _ _ _)) _ = _
        rw [hul, ew]
        exact go
      | cons x r =>
        refine (step95b _ _ _ _ _ _ _ _ _ _ _ _ r.length _).trans ?_
        rw [List.length_cons] at hal
        rw [hb, hbl, ints_at l i hlt]
        show ifK (Nat.ble (r.length + 1 + 1) 1073741824) _ = _
        rw [Nat.ble_eq_true_of_le (show r.length + 1 + 1 ≤ 1073741824 by omega), cellsA_cut (chV (x :: r)) (r.length + 1) (by rw [chV_length]; rfl)]
        show ifK (AV.under 2 (.ptrL [.hptr 0, u] 0)) _ = _
        rw [hu]
        show ifK (newest _ _) (optK _ (cutN ((r.length + 1 + 1) * 2) 0 (cellsA (chV (x :: r)) ++ cellsA (chV [l[i]])))) = _
        rw [newest_ok, ← cellsA_append, ← chV_app, cellsA_cut (chV (x :: r ++ [l[i]])) (r.length + 1 + 1) (by rw [chV_length]; simp)]
        show ifK (nonNil (cellsA (chV (x :: r ++ [l[i]]))) && AV.plains (cellsA (chV (x :: r ++ [l[i]])))) _ = _
        rw [cellsA_plains, cells_ne (by simp)]
        show ifK (AV.under 2 (.lst _ _ _ _)) _ = _
        rw [hul, ew]
        exact go
    · have hi : i = l.length := by omega
      subst hi
      have hb : (!leI (.ofNat l.length) (.ofNat l.length)) = false := by rw [leI_t (Int.le_refl _)]; rfl
      rw [List.take_length] at hacc
      subst hacc
      cases acc with
      | nil => exact (step95a _ _ _ _ _ _ _ _ _ _ _ _).trans (by rw [hb]; rfl)
      | cons x r =>
        rw [List.length_cons] at hlen
        refine (step95b _ _ _ _ _ _ _ _ _ _ _ _ r.length _).trans ?_
        rw [hb]
        show byB (!leI (.ofNat (r.length + 1)) 4096) none _ = _
        rw [leI_t (show Int.ofNat (r.length + 1) ≤ 4096 by simp only [Int.ofNat_eq_natCast]; omega), cellsA_cut (chV (x :: r)) (r.length + 1) (by rw [chV_length]; rfl)]
        show ifK (Nat.blt 0 (r.length + 1) && AV.plains (cellsA (chV (x :: r)))) _ = _
        rw [cellsA_plains, show Nat.blt 0 (r.length + 1) = true from Nat.ble_eq_true_of_le (by omega)]
        exact mkT_ok d hok (by simp only [List.length_cons]; omega)
end
theorem kX95 : KnownOk Tryz.prog (GU H0) (X95 isText ls55 ln55 em55) := ((KnownOk.none _ _).add (w55 H0)).add (u0 k38t)
theorem kY95 {β : Type} : KnownKOk (X95 isText ls55 ln55 em55) (Y95 isText ls55 ln55 em55 : KnownK β) := addK (addY (KnownKOk.none _) 55 (wK_le _)) 38 F38t
def chsT (bs : List Nat) : List Nat := chsOf (bytesA bs)
def mkS (d : Hid) (bs : List Nat) : (V2 × Int) × Hid := mkOf d 4 (chV (chsT bs))
def okS (d : Hid) (bs : List Nat) : Bool := isText (bytesA bs) bs.length && eqI (mkS d bs).1.2 0
theorem madeT_ok {d : Hid} {sl : List V2} (h : eqI (mkOf d 4 sl).1.2 0 = true) : madeT d sl = some (val (mkOf d 4 sl).1.1.1 (mkOf d 4 sl).1.1.2, (mkOf d 4 sl).2) := by
  unfold madeT
  rw [h]; rfl
def F95 (d : Hid) : List AV → Option (Bool × AV × Hid)
  | [.ptrL [.hptr 0, u] 0, .str bs] => some (okS d bs && AV.under 2 (.ptrL [.hptr 0, u] 0), val (mkS d bs).1.1.1 (mkS d bs).1.1.2, (mkS d bs).2)
  | _ => none
theorem text_list {bs : List Nat} (h : isText (bytesA bs) bs.length = true) : (∀ c ∈ chsT bs, okc c = true) ∧ ls55 (bytesA bs) = intsN (chsT bs) ∧ ln55 (bytesA bs) = (chsT bs).length ∧ (chsT bs).length ≤ 4096 := by
  obtain ⟨h1, h2, h3, h4⟩ := text_is h
  refine ⟨h1, rfl, rfl, ?_⟩
  have := flat_len (chsOf (bytesA bs))
  unfold chsT
  omega
theorem k95 : MethOk Tryz.prog (GU H0) 95 F95 := meth_known (D := D95) (m := 2500) (loops := 5) (n := 8) hm hn (GU_plain H0) kX95 kY95 fun d ar x d' hF => by
  unfold F95 at hF
  split at hF
  case h_2 => cases hF
  rename_i u bs
  simp only [Option.some.injEq, Prod.mk.injEq, Bool.and_eq_true] at hF
  obtain ⟨⟨h, hu⟩, rfl, rfl⟩ := hF
  unfold okS at h
  rw [Bool.and_eq_true] at h
  obtain ⟨h1, h2⟩ := h
  obtain ⟨q1, q2, q3, q4⟩ := text_list h1
  refine (start95 isText ls55 ln55 em55 d u bs).trans ?_
  rw [h1, show AV.plains [.lst (bytesA bs) bs.length false false] = true by show (AV.plains (bytesA bs) && true) = true; rw [bytesA_plains]; rfl]
  show L95 isText ls55 ln55 em55 Tryz.prog 2500 (t95 u mt (.lst (ls55 (bytesA bs)) (ln55 (bytesA bs)) _ _) (ln55 (bytesA bs)) 0) (st0W d) = _
  rw [q2, q3]
  have hlen : (chsT bs).length < 2000 := by
    obtain ⟨_, _, h3, h4⟩ := text_is h1
    have := flat_len (chsOf (bytesA bs))
    unfold chsT
    omega
  exact (main95 _ _ _ _ d u hu _ _ (chsT bs) q1 q4 2500 0 [] rfl (by omega) (by omega)).trans (madeT_ok h2)
end Go.Am.Txt
end
