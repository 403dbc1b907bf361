import Derived.Test.YtlibahklbbachaaGreatDoorRf46
import Derived.Test.YtlibahklbbachaaGreatDoorRf47
import Derived.Test.YtlibahklbbachaaGreatDoorRf32
set_option autoImplicit false
set_option maxRecDepth 100000
set_option linter.unusedSimpArgs false
set_option linter.unusedVariables false
section
namespace Go.Am.Sto
open Go Go.Am Go.Proofs
def putC1 (c : Array Value) (o : Nat) (v : Value) : Array Value := (c.toList.take o ++ [v] ++ c.toList.drop (o + [v].length)).toArray
theorem putC1_get {c : Array Value} {o : Nat} {v : Value} (h : o < c.size) (k : Nat) : (putC1 c o v)[k]? = if k = o then some v else c[k]? := by
 unfold putC1
 simp only [List.getElem?_toArray, List.append_assoc, List.getElem?_append, List.length_take, Array.length_toList, List.getElem?_take, List.getElem?_drop, Array.getElem?_toList, List.length_cons, List.length_nil]
 have hmin : min o c.size = o := by omega
 rw [hmin]
 by_cases c1 : k < o
 ·rw [if_pos c1, if_pos c1, if_neg (by omega)]
 ·rw [if_neg c1]
  by_cases c2 : k = o
  ·subst c2; simp
  ·rw [if_neg (by omega), if_neg c2]
   congr 1; omega
theorem putC1_size {c : Array Value} {o : Nat} {v : Value} (h : o < c.size) : (putC1 c o v).size = c.size := by
 unfold putC1
 simp only [List.size_toArray, List.length_append, List.length_take, List.length_drop, Array.length_toList, List.length_cons, List.length_nil]
 omega
theorem setCells_one {w : World} {b o : Nat} {v : Value} {c : Array Value} {ty : TypeId} (hb : w.heap[b]? = some (.cells c ty (0, 0))) (hl : o < c.size) (h1 : v.oneCell' = true) : w.setCells b o [v] = w.setRow b (putC1 c o v) :=
 setCells_setRow Tryz.prog hb (by simp only [List.length_cons, List.length_nil]; omega) (fun x hx => by rw [List.mem_singleton.1 hx]; exact h1)
theorem two_cells {w : World} {b o1 o2 : Nat} {v1 v2 : Value} {c : Array Value} {ty : TypeId} (hb : w.heap[b]? = some (.cells c ty (0, 0))) (h1 : o1 < c.size) (h2 : o2 < c.size) (k1 : v1.oneCell' = true) (k2 : v2.oneCell' = true) :
  ((w.setCells b o1 [v1]).setCells b o2 [v2]).heap = (w.setRow b (putC1 (putC1 c o1 v1) o2 v2)).heap := by
 rw [setCells_one hb h1 k1]
 have hb1 : (w.setRow b (putC1 c o1 v1)).heap[b]? = some (.cells (putC1 c o1 v1) ty (0, 0)) := setRow_heap w b c _ ty (0, 0) hb
 rw [setCells_one hb1 (by rw [putC1_size h1]; exact h2) k2]
 apply Array.ext_getElem?
 intro k
 by_cases hk : k = b
 ·subst hk
  rw [setRow_heap _ k _ _ ty (0, 0) hb1, setRow_heap _ k _ _ ty (0, 0) hb]
 ·rw [setRow_heap_ne _ b k _ hk, setRow_heap_ne _ b k _ hk, setRow_heap_ne _ b k _ hk]
theorem ins_ok {E : Env} {s : St} {w : World} (h : Rel E s w) {r q : Nat} {o oq : Row} {cv xv : Int} {t t2 : Bool} {v1 v3 : Value} (hr : s.get r = some (.row o)) (hq : s.get q = some (.row oq)) (hs : o.solo = true) (hsq : oq.solo = true) (hne : q ≠ r)
  (hv : o.vals = [.int .u32 cv]) (hvq : oq.vals = [.int .u32 xv]) (hty : o.ty = 75) (a1 : VR E (.sl r 0 1 1 t) v1) (a3 : VR E (.sl q 0 1 1 t2) v3) :
  Calls Tryz.prog 138 #[v1, .int .i64 0, v3] w fun e w' => ∃ v' E', e = .returned v' ∧ Step E s w E' (insS s r o [.int .u32 xv, .int .u32 cv]) w' ∧ VR E' (.sl s.next 0 2 1 false) v' := by
 cases a1 with
 | sl hl hle ht ha hsome =>
 rename_i b base cap a
 cases a3 with
 | sl hl3 hle3 ht3 ha3 hsome3 =>
 rename_i b3 base3 cap3 a3
 obtain ⟨ea, eb⟩ := ha (by omega)
 obtain ⟨ea3, eb3⟩ := ha3 (by omega)
 subst ea ea3
 obtain ⟨c, cty, fz, g1, g2, g3, g4⟩ := h.row r o b base hr hl
 obtain ⟨⟨hfz, hcty⟩, vs, k1, k2⟩ := g4 (by unfold valid; rw [hs]; rfl)
 obtain ⟨c3, cty3, fz3, p1, p2, p3, p4⟩ := h.row q oq b3 base3 hq hl3
 obtain ⟨⟨hfz3, hcty3⟩, vs3, q1, q2⟩ := p4 (by unfold valid; rw [hsq]; rfl)
 subst hfz hfz3
 rw [hv] at k1 g3
 rw [hvq] at q1 p3
 have hvs : vs = [.int .u32 cv] := by cases k1 with | cons x y => cases x; cases y; rfl
 have hvs3 : vs3 = [.int .u32 xv] := by cases q1 with | cons x y => cases x; cases y; rfl
 subst hvs hvs3
 have hbb : b3 ≠ b := fun e => by
  subst e
  rcases h.coh q r b3 base3 base hl3 hl with h3 | ⟨o1, o2, m1, m2, m3, _⟩
  ·exact hne h3
  ·rw [hq] at m1; cases m1
   rw [hr] at m2; cases m2
   exact hne ((h.wf.solo q oq hq hsq).1.symm.trans (m3.trans (h.wf.solo r o hr hs).1))
 have hcs : ∀ j v, [Value.int .u32 cv][j]? = some v → w.cell? ⟨b, base + 0 + j, none⟩ = some v := fun j v hj => by
  have := k2 j v hj
  simpa [World.cell?, g1] using this
 have hvs' : ∀ j v, [Value.int .u32 xv][j]? = some v → w.cell? ⟨b3, base3 + 0 + j, none⟩ = some v := fun j v hj => by
  have := q2 j v hj
  simpa [World.cell?, p1] using this
 have one : ∀ z : Int, ∀ v ∈ [Value.int .u32 z], v.oneCell' = true := fun z v hz => by rw [List.mem_singleton.1 hz]; rfl
 by_cases hcap : 2 ≤ cap
 ·-- in its place
  have hsz : base + cap ≤ c.size := by rw [g2]; simpa using eb
  refine (Tryz.slices_Insert_shift b (base + 0) 1 cap 0 b3 (base3 + 0) 1 cap3 [.int .u32 cv] [.int .u32 xv] w (by omega) (by omega) hcap (by omega) hbb rfl rfl hcs
   (fun j hj => by simp [World.cell?, g1]; omega) (fun j hj => by simp [World.frozen?, g1]) hvs' (one cv) (one xv) cty3 cty c3.size c.size
   (by unfold World.shape?; rw [p1]) (by unfold World.shape?; rw [g1]) (by omega) (by simp [World.frozen?, p1]) (by simp [World.frozen?, p1])).mono fun e w' ⟨he, hw⟩ => ?_
  have hg : w.drew.heap[b]? = some (.cells c cty (0, 0)) := g1
  have hheap : w'.heap = (w.setRow b (putC1 (putC1 c (base + 0 + (0 + 1)) (.int .u32 cv)) (base + 0 + 0) (.int .u32 xv))).heap := by
   rw [hw]
   exact two_cells (w := w.drew) hg (by omega) (by omega) rfl rfl
  have hst := Step.insIn h hr hs hl g1 hcty (new := [.int .u32 xv, .int .u32 cv]) (vs := [.int .u32 xv, .int .u32 cv]) (.cons (.int _ _) (.cons (.int _ _) .nil)) (putC1 (putC1 c (base + 0 + (0 + 1)) (.int .u32 cv)) (base + 0 + 0) (.int .u32 xv))
   (by rw [putC1_size (by rw [putC1_size (by omega)]; omega), putC1_size (by omega)]) (by simp only [List.length_cons, List.length_nil]; omega) (fun i v hi => by
    rw [putC1_get (by rw [putC1_size (by omega)]; omega)]
    match i, hi with
    | 0, hi => cases hi; rw [if_pos (by omega)]
    | 1, hi => cases hi; rw [if_neg (by omega), putC1_get (by omega), if_pos (by omega)])
  have hw' : w'.os = w.os ∧ w'.tape = w.tape ∧ w'.output = w.output := by
   rw [hw]
   show ((w.drew.setCells b (base + 0 + (0 + 1)) [.int .u32 cv]).setCells b (base + 0 + 0) [.int .u32 xv]).os = _ ∧ ((w.drew.setCells b (base + 0 + (0 + 1)) [.int .u32 cv]).setCells b (base + 0 + 0) [.int .u32 xv]).tape = _ ∧ ((w.drew.setCells b (base + 0 + (0 + 1)) [.int .u32 cv]).setCells b (base + 0 + 0) [.int .u32 xv]).output = _
   rw [setCells_one hg (by omega) rfl, setCells_one (setRow_heap w.drew b c _ cty (0, 0) hg) (by rw [putC1_size (by omega)]; omega) rfl]
   exact ⟨rfl, rfl, rfl⟩
  refine ⟨_, _, he, hst.trans (Step.same hst.rel hheap hw'.1 hw'.2.1 hw'.2.2), ?_⟩
  refine .sl (b := b) (base := base) (Env.add_self _ _ _ _ _) hcap (fun h => by cases h) (fun _ => ⟨rfl, ?_⟩) (by simp)
  simp only [Env.add, if_true]; omega
 ·-- in a new block
  have hc1 : cap = 1 := by omega
  subst hc1
  have hbw : b < w.heap.size := (h.lt r b base hl).2
  refine (Tryz.slices_Insert_grow b (base + 0) 1 1 0 b3 (base3 + 0) 1 cap3 [.int .u32 cv] [.int .u32 xv] w (by omega) (by omega) (by omega) (by omega) (by omega) rfl rfl hcs hvs' (one cv) (one xv)).mono fun e w' ⟨he, hw⟩ => ?_
  have hG := grownCap_ge w (1 + 1) 1 75
  generalize hROW : (([Value.int .u32 cv].take 0).toArray ++ Builtin.zeroCells (Value.int .u32 0).cells (1 + 1 - 0) ++ Builtin.zeroCells (Value.int .u32 0).cells (grownCap w (1 + 1) 1 75 - (1 + 1)) : Array Value) = ROW at hw
  have hR : ROW.size = grownCap w (1 + 1) 1 75 := by
   rw [← hROW]
   have hG2 : 2 ≤ grownCap w 2 1 75 := hG
   simp [Builtin.zeroCells, Value.cells]
   omega
  have hal : (w.alloc (.cells ROW 75)).drew.heap[w.heap.size]? = some (.cells ROW 75 (0, 0)) := by
   show (w.heap.push (.cells ROW 75))[w.heap.size]? = _
   rw [Array.getElem?_push_size]
  have k0 : 0 < ROW.size := by omega
  have k1' : 1 < ROW.size := by omega
  have hheap : w'.heap = (w.alloc (.cells (putC1 (putC1 ROW 0 (.int .u32 xv)) (0 + 1) (.int .u32 cv)) 75)).heap := by
   rw [hw]
   show ((((w.alloc (.cells ROW 75)).drew.setCells w.heap.size 0 [.int .u32 xv]).drew).setCells w.heap.size (0 + 1) [.int .u32 cv]).heap = _
   rw [setCells_one hal k0 rfl]
   have hal1 : ((w.alloc (.cells ROW 75)).drew.setRow w.heap.size (putC1 ROW 0 (.int .u32 xv))).drew.heap[w.heap.size]? = some (.cells (putC1 ROW 0 (.int .u32 xv)) 75 (0, 0)) := setRow_heap _ _ _ _ 75 (0, 0) hal
   rw [setCells_one hal1 (by rw [putC1_size k0]; exact k1') rfl]
   apply Array.ext_getElem?
   intro k
   by_cases hk : k = w.heap.size
   ·subst hk
    rw [setRow_heap _ w.heap.size _ _ 75 (0, 0) hal1]
    show _ = (w.heap.push _)[w.heap.size]?
    rw [Array.getElem?_push_size]
   ·rw [setRow_heap_ne _ w.heap.size k _ hk]
    show ((w.alloc (.cells ROW 75)).drew.setRow w.heap.size (putC1 ROW 0 (.int .u32 xv))).heap[k]? = _
    rw [setRow_heap_ne _ w.heap.size k _ hk]
    show (w.heap.push _)[k]? = (w.heap.push _)[k]?
    rw [Array.getElem?_push, Array.getElem?_push, if_neg hk, if_neg hk]
  have hst := Step.insNew h hr hs hl (new := [.int .u32 xv, .int .u32 cv]) (vs := [.int .u32 xv, .int .u32 cv]) (.cons (.int _ _) (.cons (.int _ _) .nil)) (putC1 (putC1 ROW 0 (.int .u32 xv)) (0 + 1) (.int .u32 cv))
   (by rw [putC1_size (by rw [putC1_size k0]; exact k1'), putC1_size k0]; simp only [List.length_cons, List.length_nil]; omega) (fun i v hi => by
    rw [putC1_get (by rw [putC1_size k0]; exact k1')]
    match i, hi with
    | 0, hi => cases hi; rw [if_neg (by omega), putC1_get k0, if_pos rfl]
    | 1, hi => cases hi; rw [if_pos rfl])
  rw [hty] at hst
  have hw' : w'.os = w.os ∧ w'.tape = w.tape ∧ w'.output = w.output := by
   rw [hw]
   show (((w.alloc (.cells ROW 75)).drew.setCells w.heap.size 0 [.int .u32 xv]).drew.setCells w.heap.size (0 + 1) [.int .u32 cv]).os = _ ∧ (((w.alloc (.cells ROW 75)).drew.setCells w.heap.size 0 [.int .u32 xv]).drew.setCells w.heap.size (0 + 1) [.int .u32 cv]).tape = _ ∧ (((w.alloc (.cells ROW 75)).drew.setCells w.heap.size 0 [.int .u32 xv]).drew.setCells w.heap.size (0 + 1) [.int .u32 cv]).output = _
   rw [setCells_one hal k0 rfl]
   have hal1 : ((w.alloc (.cells ROW 75)).drew.setRow w.heap.size (putC1 ROW 0 (.int .u32 xv))).drew.heap[w.heap.size]? = some (.cells (putC1 ROW 0 (.int .u32 xv)) 75 (0, 0)) := setRow_heap _ _ _ _ 75 (0, 0) hal
   rw [setCells_one hal1 (by rw [putC1_size k0]; exact k1') rfl]
   exact ⟨rfl, rfl, rfl⟩
  refine ⟨_, _, he, hst.trans (Step.same hst.rel hheap hw'.1 hw'.2.1 hw'.2.2), ?_⟩
  refine .sl (base := 0) (b := w.heap.size) (by simpa using Env.add_self _ _ _ _ _) hG (fun h => by cases h) (fun _ => ⟨rfl, ?_⟩) (by simp)
  simp only [Env.add, if_true]
  rw [putC1_size (by rw [putC1_size k0]; exact k1'), putC1_size k0, hR]; omega
end Go.Am.Sto
end
section
namespace Go.Am.Sto
open Go Go.Am Go.Proofs
def insG (s : St) (r q : Nat) : Option (Row × Int × Int) := match s.get r with
 | some (.row o) => match s.get q with
  | some (.row p) => match o.vals with
   | [.int .u32 c] => match p.vals with
    | [.int .u32 x] => bif (o.solo && p.solo) && (!Nat.beq q r && Nat.beq o.ty 75) then some (o, x, c) else none
    | _ => none
   | _ => none
  | _ => none
 | _ => none
theorem insG_eq {s : St} {r q : Nat} {o : Row} {x c : Int} (h : insG s r q = some (o, x, c)) : ∃ p, s.get r = some (.row o) ∧ s.get q = some (.row p) ∧ o.solo = true ∧ p.solo = true ∧ q ≠ r ∧ o.vals = [.int .u32 c] ∧ p.vals = [.int .u32 x] ∧ o.ty = 75 := by
 unfold insG at h
 split at h
 ·rename_i o' ho
  split at h
  ·rename_i p hp
   split at h
   ·rename_i c' hc
    split at h
    ·rename_i x' hx
     rcases Bool.eq_false_or_eq_true ((o'.solo && p.solo) && (!Nat.beq q r && Nat.beq o'.ty 75)) with hb | hb
     ·rw [cond_of_true hb] at h
      cases h
      simp only [Bool.and_eq_true, Bool.not_eq_true'] at hb
      exact ⟨p, ho, hp, hb.1.1, hb.1.2, fun e => by subst e; rw [Nat.beq_refl] at hb; exact absurd hb.2.1 (by decide), hc, hx, Nat.eq_of_beq_eq_true hb.2.2⟩
     ·rw [cond_of_false hb] at h; cases h
    ·cases h
   ·cases h
  ·cases h
 ·cases h
def insC (off es : Nat) (i : Int) (off2 n2 es2 : Nat) : Bool := (Nat.beq off 0 && Nat.beq es 1) && (eqI i 0 && (Nat.beq off2 0 && (Nat.beq n2 1 && Nat.beq es2 1)))
def insX (P : Program) (args : List AV) (s : St) : Res := match args with
 | [.sl r off n es _, .int .i64 i, .sl q off2 n2 es2 _] => bif Nat.beq n 1 then
   match insG s r q with
   | some p => bif insC off es i off2 n2 es2 then .ret (.sl s.next 0 2 1 false) (insS s r p.1 [.int .u32 p.2.1, .int .u32 p.2.2]) else .fail
   | none => .fail
  else bodyD P G0 (callN P G0 .none 0 3) noLive 10 P.funcs[138]? args s
 | args => bodyD P G0 (callN P G0 .none 0 3) noLive 10 P.funcs[138]? args s
def insK {β : Type} (P : Program) (args : List AV) (s : St) (kr : Res → Option β) : Option β := match args with
 | [.sl r off n es _, .int .i64 i, .sl q off2 n2 es2 _] => bif Nat.beq n 1 then
   match insG s r q with
   | some p => ifK (insC off es i off2 n2 es2) (kr (.ret (.sl s.next 0 2 1 false) (insS s r p.1 [.int .u32 p.2.1, .int .u32 p.2.2])))
   | none => none
  else bodyY P G0 .none .none 0 3 noLive kr 10 P.funcs[138]? args s
 | args => bodyY P G0 .none .none 0 3 noLive kr 10 P.funcs[138]? args s
theorem insK_le {β : Type} (P : Program) (args : List AV) (s : St) (kr kr' : Res → Option β) (h : ∀ r, Le (kr r) (kr' r)) : Le (insK P args s kr) (kr' (insX P args s)) := by
 intro x hx
 have other : ∀ args, bodyY P G0 .none .none 0 3 noLive kr 10 P.funcs[138]? args s = some x → kr' (bodyD P G0 (callN P G0 .none 0 3) noLive 10 P.funcs[138]? args s) = some x := fun args he =>
  h _ x (bodyY_le (KnownKOk.none _) he)
 unfold insK at hx
 split at hx
 ·rename_i r off n es t i q off2 n2 es2 t2
  unfold insX
  rcases Bool.eq_false_or_eq_true (Nat.beq n 1) with hb | hb
  ·rw [cond_of_true hb] at hx
   show kr' (bif Nat.beq n 1 then _ else _) = _
   rw [cond_of_true hb]
   split at hx
   ·rename_i p hp
    obtain ⟨hc, hx⟩ := ifK_some hx
    show kr' (bif insC off es i off2 n2 es2 then _ else _) = _
    rw [hc]
    exact h _ x hx
   ·cases hx
  ·rw [cond_of_false hb] at hx
   show kr' (bif Nat.beq n 1 then _ else _) = _
   rw [cond_of_false hb]
   exact other _ hx
 ·rename_i hno
  unfold insX
  split
  ·rename_i r off n es t i q off2 n2 es2 t2
   exact absurd rfl (hno r off n es t i q off2 n2 es2 t2)
  ·exact other _ hx
theorem ent138 : Enters Tryz.prog 138 := by
 have e : (Tryz.prog.funcs[138]?).map (fun f => f.body.isSome) = some true := by kernel_rfl
 cases hf : Tryz.prog.funcs[138]? with
 | none => rw [hf] at e; cases e
 | some fn => rw [hf] at e; exact ⟨fn, hf, by simpa using e, hn 138 fn hf⟩
theorem k138 : ∀ (args : List AV) (s : St) (E : Env) (w : World) (vs : List Value), Rel E s w → GlobOk E G0 w → VRL E args vs → ResOk Tryz.prog E s w 138 vs (insX Tryz.prog args s) := by
 intro args s E w vs h hG ha
 have hb : ∀ args, VRL E args vs → ResOk Tryz.prog E s w 138 vs (bodyD Tryz.prog G0 (callN Tryz.prog G0 .none 0 3) noLive 10 Tryz.prog.funcs[138]? args s) := fun args ha =>
  bodyD_ok hm hn (callN_ok hm hn (KnownOk.none Tryz.prog G0) 0 3) 10 138 args s E w vs h hG ha
 unfold insX
 split
 ·rename_i r off n es t i q off2 n2 es2 t2
  rcases Bool.eq_false_or_eq_true (Nat.beq n 1) with hn1 | hn1
  ·rw [cond_of_true hn1]
   split
   ·rename_i p hp
    obtain ⟨o, x, c⟩ := p
    obtain ⟨p, g1, g2, g3, g4, g5, g6, g7, g8⟩ := insG_eq hp
    rcases Bool.eq_false_or_eq_true (insC off es i off2 n2 es2) with hc | hc
    ·rw [cond_of_true hc]
     unfold insC at hc
     simp only [Bool.and_eq_true] at hc
     obtain ⟨⟨c1, c2⟩, c3, c4, c5, c6⟩ := hc
     have c1 := Nat.eq_of_beq_eq_true c1
     have c2 := Nat.eq_of_beq_eq_true c2
     have c4 := Nat.eq_of_beq_eq_true c4
     have c5 := Nat.eq_of_beq_eq_true c5
     have c6 := Nat.eq_of_beq_eq_true c6
     have c0 := Nat.eq_of_beq_eq_true hn1
     have c3 : i = 0 := eqI_is c3
     subst c0 c1 c2 c3 c4 c5 c6
     cases ha with
     | cons a1 ha => cases ha with
      | cons a2 ha => cases ha with
       | cons a3 ha =>
        cases ha
        cases a2
        exact .inl ⟨ent138, ins_ok h g1 g2 g3 g4 g5 g6 g7 g8 a1 a3⟩
    ·rw [cond_of_false hc]; trivial
   ·trivial
  ·rw [cond_of_false hn1]
   exact hb _ ha
 ·exact hb _ ha
end Go.Am.Sto
end
section
namespace Go.Am.Sto
open Go Go.Am Go.Proofs
section
variable (sn : Bool → List AV → Nat → Bool) (ct : List AV → Nat → Int → Bool) (rt : List AV → Nat → Int → List AV) (lt : List AV → Nat → Int → Nat) (ch : List AV → Nat → List AV → Nat → Bool) (qh : List AV → Nat → List AV → Nat → Int)
 (cm : List AV → Nat → List AV → Nat → Bool → Bool) (gm : List AV → List AV → Nat → Int)
def X74 (P : Program) : Known := (((((Known.none.add 35 (zX (F35v sn))).add 137 cutX).add 138 (insX P)).add 139 (zX (F139v ch qh))).add 140 (zX (F140v ct rt lt))).add 135 (X135 cm gm)
def Y74 {β : Type} (P : Program) : KnownK β := (((((KnownK.none.add 35 (zK (F35v sn))).add 137 cutBK).add 138 (insK P)).add 139 (zK (F139v ch qh))).add 140 (zK (F140v ct rt lt))).add 135 (K135 cm gm)
def D74 : Live := fun i => match i with | 1 => .pack [2, 3, 4, 5, 6, 7, 8, 9] | _ => .all
def b74 (P : Program) (ng : Bool) (a : List AV) (n : Nat) (t1 l1 : Bool) (mg : Bool) (b : List AV) (m : Nat) (t2 l2 : Bool) : Option AV :=
 bodyY P G0 (X74 sn ct rt lt ch qh cm gm P) (Y74 sn ct rt lt ch qh cm gm P) 0 8 D74 Res.fresh0? 6 P.funcs[74]? [.agg [.bool ng, .lst a n t1 l1], .agg [.bool mg, .lst b m t2 l2]] St.empty
abbrev divV (g1 : Bool) (v : List AV) (k : Nat) (t l : Bool) (g2 : Bool) (u : List AV) (j : Nat) (t2 l2 : Bool) (e : Int) : Option AV := some (.tup [.agg [.bool g1, .lst v k t l], .agg [.bool g2, .lst u j t2 l2], .int .i64 e])
variable (b : List AV) (m : Nat)
def midT (cs : List AV) (n : Nat) (k : Int → List AV → Nat → Option AV) : Option AV :=
 ifK (ch cs n b m) (ifK (ct b m (qh cs n b m)) (ifK (AV.plain (.lst (rt b m (qh cs n b m)) (lt b m (qh cs n b m)) false false)) (k (qh cs n b m) (rt b m (qh cs n b m)) (lt b m (qh cs n b m)))))
def zeroR (k : Int → List Int → Option AV) : Option AV := midT ct rt lt ch qh b m [] 0 fun q _ _ => k q []
def oneR (x : Int) (k : Int → List Int → Option AV) : Option AV := midT ct rt lt ch qh b m [.int .u32 x] 1 fun q r l => ifK (cm [.int .u32 x] 1 r l false) (byB (eqI (gm [.int .u32 x] r 0) 0) (k q []) (k q [gm [.int .u32 x] r 0]))
def twoR (x y : Int) (k : Int → List Int → Option AV) : Option AV := midT ct rt lt ch qh b m [.int .u32 x, .int .u32 y] 2 fun q r l => ifK (cm [.int .u32 x, .int .u32 y] 2 r l false)
 (byB (eqI (gm [.int .u32 x, .int .u32 y] r 1) 0) (byB (eqI (gm [.int .u32 x, .int .u32 y] r 0) 0) (k q []) (k q [gm [.int .u32 x, .int .u32 y] r 0])) (k q [gm [.int .u32 x, .int .u32 y] r 0, gm [.int .u32 x, .int .u32 y] r 1]))
def insR (rest : List Int) (x : Int) (k : Int → List Int → Option AV) : Option AV := match rest with
 | [] => byB (eqI x 0) (zeroR ct rt lt ch qh b m k) (oneR ct rt lt ch qh cm gm b m x k)
 | [g] => byB (eqI g 0) (byB (eqI x 0) (zeroR ct rt lt ch qh b m k) (oneR ct rt lt ch qh cm gm b m x k)) (twoR ct rt lt ch qh cm gm b m x g k)
 | _ => none
def endD (s1 s2 : Bool) (out rest : List Int) : Option AV := byTrim (u32s out) (fun k => byTrim (u32s rest) (fun j => divV (s1 && Nat.blt 0 k) ((u32s out).take k) k (Nat.beq k out.length) false (s2 && Nat.blt 0 j) ((u32s rest).take j) j false false 0) rest.length) out.length
def bothD (ng : Bool) (a : List AV) (n : Nat) (mg : Bool) (x : Option AV) : Option AV := ifK (sn ng a n) (ifK (sn mg b m) x)
end
section
variable (sn : Bool → List AV → Nat → Bool) (ct : List AV → Nat → Int → Bool) (rt : List AV → Nat → Int → List AV) (lt : List AV → Nat → Int → Nat) (ch : List AV → Nat → List AV → Nat → Bool) (qh : List AV → Nat → List AV → Nat → Int)
 (cm : List AV → Nat → List AV → Nat → Bool → Bool) (gm : List AV → List AV → Nat → Int) (x0 x1 y0 y1 : Int) (t1 l1 t2 l2 : Bool)
def div1 (b : List AV) (m : Nat) (ng mg : Bool) (s1 s2 : Bool) : Prop := b74 sn ct rt lt ch qh cm gm Tryz.prog ng (u32s [x0]) 1 t1 l1 mg b m t2 l2 =
 bothD sn b m ng (u32s [x0]) 1 mg (insR ct rt lt ch qh cm gm b m [] x0 fun q r => endD s1 s2 [q] r)
def div2 (b : List AV) (m : Nat) (ng mg : Bool) (s1 s2 : Bool) : Prop := b74 sn ct rt lt ch qh cm gm Tryz.prog ng (u32s [x0, x1]) 2 t1 l1 mg b m t2 l2 =
 bothD sn b m ng (u32s [x0, x1]) 2 mg (insR ct rt lt ch qh cm gm b m [] x1 fun q1 r => insR ct rt lt ch qh cm gm b m r x0 fun q r => endD s1 s2 [q, q1] r)
theorem d01ff : b74 sn ct rt lt ch qh cm gm Tryz.prog false [] 0 t1 l1 false (u32s [y0]) 1 t2 l2 = bothD sn (u32s [y0]) 1 false [] 0 false (divV false [] 0 true false false [] 0 false true 0) := by kernel_rfl
theorem d01ft : b74 sn ct rt lt ch qh cm gm Tryz.prog false [] 0 t1 l1 true (u32s [y0]) 1 t2 l2 = bothD sn (u32s [y0]) 1 false [] 0 true (divV false [] 0 true false false [] 0 false true 0) := by kernel_rfl
theorem d01tf : b74 sn ct rt lt ch qh cm gm Tryz.prog true [] 0 t1 l1 false (u32s [y0]) 1 t2 l2 = bothD sn (u32s [y0]) 1 true [] 0 false (divV false [] 0 true false false [] 0 false true 0) := by kernel_rfl
theorem d01tt : b74 sn ct rt lt ch qh cm gm Tryz.prog true [] 0 t1 l1 true (u32s [y0]) 1 t2 l2 = bothD sn (u32s [y0]) 1 true [] 0 true (divV false [] 0 true false false [] 0 false true 0) := by kernel_rfl
theorem d02ff : b74 sn ct rt lt ch qh cm gm Tryz.prog false [] 0 t1 l1 false (u32s [y0, y1]) 2 t2 l2 = bothD sn (u32s [y0, y1]) 2 false [] 0 false (divV false [] 0 true false false [] 0 false true 0) := by kernel_rfl
theorem d02ft : b74 sn ct rt lt ch qh cm gm Tryz.prog false [] 0 t1 l1 true (u32s [y0, y1]) 2 t2 l2 = bothD sn (u32s [y0, y1]) 2 false [] 0 true (divV false [] 0 true false false [] 0 false true 0) := by kernel_rfl
theorem d02tf : b74 sn ct rt lt ch qh cm gm Tryz.prog true [] 0 t1 l1 false (u32s [y0, y1]) 2 t2 l2 = bothD sn (u32s [y0, y1]) 2 true [] 0 false (divV false [] 0 true false false [] 0 false true 0) := by kernel_rfl
theorem d02tt : b74 sn ct rt lt ch qh cm gm Tryz.prog true [] 0 t1 l1 true (u32s [y0, y1]) 2 t2 l2 = bothD sn (u32s [y0, y1]) 2 true [] 0 true (divV false [] 0 true false false [] 0 false true 0) := by kernel_rfl
theorem d00ff : b74 sn ct rt lt ch qh cm gm Tryz.prog false (u32s []) 0 t1 l1 false [] 0 t2 l2 = bothD sn [] 0 false (u32s []) 0 false (divV false [] 0 false true false [] 0 false true 13) := by kernel_rfl
theorem d00ft : b74 sn ct rt lt ch qh cm gm Tryz.prog false (u32s []) 0 t1 l1 true [] 0 t2 l2 = bothD sn [] 0 false (u32s []) 0 true (divV false [] 0 false true false [] 0 false true 13) := by kernel_rfl
theorem d00tf : b74 sn ct rt lt ch qh cm gm Tryz.prog true (u32s []) 0 t1 l1 false [] 0 t2 l2 = bothD sn [] 0 true (u32s []) 0 false (divV false [] 0 false true false [] 0 false true 13) := by kernel_rfl
theorem d00tt : b74 sn ct rt lt ch qh cm gm Tryz.prog true (u32s []) 0 t1 l1 true [] 0 t2 l2 = bothD sn [] 0 true (u32s []) 0 true (divV false [] 0 false true false [] 0 false true 13) := by kernel_rfl
theorem d10ff : b74 sn ct rt lt ch qh cm gm Tryz.prog false (u32s [x0]) 1 t1 l1 false [] 0 t2 l2 = bothD sn [] 0 false (u32s [x0]) 1 false (divV false [] 0 false true false [] 0 false true 13) := by kernel_rfl
theorem d10ft : b74 sn ct rt lt ch qh cm gm Tryz.prog false (u32s [x0]) 1 t1 l1 true [] 0 t2 l2 = bothD sn [] 0 false (u32s [x0]) 1 true (divV false [] 0 false true false [] 0 false true 13) := by kernel_rfl
theorem d10tf : b74 sn ct rt lt ch qh cm gm Tryz.prog true (u32s [x0]) 1 t1 l1 false [] 0 t2 l2 = bothD sn [] 0 true (u32s [x0]) 1 false (divV false [] 0 false true false [] 0 false true 13) := by kernel_rfl
theorem d10tt : b74 sn ct rt lt ch qh cm gm Tryz.prog true (u32s [x0]) 1 t1 l1 true [] 0 t2 l2 = bothD sn [] 0 true (u32s [x0]) 1 true (divV false [] 0 false true false [] 0 false true 13) := by kernel_rfl
theorem d20ff : b74 sn ct rt lt ch qh cm gm Tryz.prog false (u32s [x0, x1]) 2 t1 l1 false [] 0 t2 l2 = bothD sn [] 0 false (u32s [x0, x1]) 2 false (divV false [] 0 false true false [] 0 false true 13) := by kernel_rfl
theorem d20ft : b74 sn ct rt lt ch qh cm gm Tryz.prog false (u32s [x0, x1]) 2 t1 l1 true [] 0 t2 l2 = bothD sn [] 0 false (u32s [x0, x1]) 2 true (divV false [] 0 false true false [] 0 false true 13) := by kernel_rfl
theorem d20tf : b74 sn ct rt lt ch qh cm gm Tryz.prog true (u32s [x0, x1]) 2 t1 l1 false [] 0 t2 l2 = bothD sn [] 0 true (u32s [x0, x1]) 2 false (divV false [] 0 false true false [] 0 false true 13) := by kernel_rfl
theorem d20tt : b74 sn ct rt lt ch qh cm gm Tryz.prog true (u32s [x0, x1]) 2 t1 l1 true [] 0 t2 l2 = bothD sn [] 0 true (u32s [x0, x1]) 2 true (divV false [] 0 false true false [] 0 false true 13) := by kernel_rfl
theorem d11ff : div1 sn ct rt lt ch qh cm gm x0 t1 l1 t2 l2 (u32s [y0]) 1 false false false false := by unfold div1; kernel_rfl
theorem d11ft : div1 sn ct rt lt ch qh cm gm x0 t1 l1 t2 l2 (u32s [y0]) 1 false true true false := by unfold div1; kernel_rfl
theorem d11tf : div1 sn ct rt lt ch qh cm gm x0 t1 l1 t2 l2 (u32s [y0]) 1 true false true true := by unfold div1; kernel_rfl
theorem d11tt : div1 sn ct rt lt ch qh cm gm x0 t1 l1 t2 l2 (u32s [y0]) 1 true true false true := by unfold div1; kernel_rfl
theorem d12ff : div1 sn ct rt lt ch qh cm gm x0 t1 l1 t2 l2 (u32s [y0, y1]) 2 false false false false := by unfold div1; kernel_rfl
theorem d12ft : div1 sn ct rt lt ch qh cm gm x0 t1 l1 t2 l2 (u32s [y0, y1]) 2 false true true false := by unfold div1; kernel_rfl
theorem d12tf : div1 sn ct rt lt ch qh cm gm x0 t1 l1 t2 l2 (u32s [y0, y1]) 2 true false true true := by unfold div1; kernel_rfl
theorem d12tt : div1 sn ct rt lt ch qh cm gm x0 t1 l1 t2 l2 (u32s [y0, y1]) 2 true true false true := by unfold div1; kernel_rfl
theorem d21ff : div2 sn ct rt lt ch qh cm gm x0 x1 t1 l1 t2 l2 (u32s [y0]) 1 false false false false := by unfold div2; kernel_rfl
theorem d21ft : div2 sn ct rt lt ch qh cm gm x0 x1 t1 l1 t2 l2 (u32s [y0]) 1 false true true false := by unfold div2; kernel_rfl
theorem d21tf : div2 sn ct rt lt ch qh cm gm x0 x1 t1 l1 t2 l2 (u32s [y0]) 1 true false true true := by unfold div2; kernel_rfl
theorem d21tt : div2 sn ct rt lt ch qh cm gm x0 x1 t1 l1 t2 l2 (u32s [y0]) 1 true true false true := by unfold div2; kernel_rfl
theorem d22ff : div2 sn ct rt lt ch qh cm gm x0 x1 t1 l1 t2 l2 (u32s [y0, y1]) 2 false false false false := by unfold div2; kernel_rfl
theorem d22ft : div2 sn ct rt lt ch qh cm gm x0 x1 t1 l1 t2 l2 (u32s [y0, y1]) 2 false true true false := by unfold div2; kernel_rfl
theorem d22tf : div2 sn ct rt lt ch qh cm gm x0 x1 t1 l1 t2 l2 (u32s [y0, y1]) 2 true false true true := by unfold div2; kernel_rfl
theorem d22tt : div2 sn ct rt lt ch qh cm gm x0 x1 t1 l1 t2 l2 (u32s [y0, y1]) 2 true true false true := by unfold div2; kernel_rfl
end
end Go.Am.Sto
end
