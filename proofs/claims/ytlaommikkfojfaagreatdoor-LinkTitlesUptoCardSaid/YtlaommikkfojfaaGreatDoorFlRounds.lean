/- Ranges over functions: rounds, the calls of yield, the statement. Lemmas alone. -/
import Derived.Test.YtlaommikkfojfaaGreatDoorFlJoin
import Derived.Test.YtlaommikkfojfaaGreatDoorFlLoops
import Derived.RangeFuncRecord
namespace Go.Fl
open Go
section
variable {P : Program} {ro : Option Nat}
/-- The parameters of a round in its frame. -/
def setPs : List Nat → List V1 → Fr → Fr
  | p :: ps, v :: vs, fr => setPs ps vs ((p, some (.v v)) :: fr)
  | _, _, fr => fr
theorem setPs_ok {M : Mem} {ι : Iota} : ∀ {ps : List Nat} {vs : List V1} {us : List Value} {fr : Fr} {tmps : Array Value}, FrOk M ι fr ⟨tmps, []⟩ → (∀ p ∈ ps, p < tmps.size) → All2 (RepV1 M ι) vs us →
    FrOk M ι (setPs ps vs fr) ⟨(ps.zip us).foldl (fun tmps (t, a) => tmps.setIfInBounds t a) tmps, []⟩ ∧ ((ps.zip us).foldl (fun tmps (t, a) => tmps.setIfInBounds t a) tmps).size = tmps.size
  | [], _, _, _, _, h, _, _ => ⟨h, rfl⟩
  | _ :: _, [], [], _, _, h, _, _ => ⟨h, rfl⟩
  | _ :: _, [], _ :: _, _, _, _, _, h => h.elim
  | _ :: _, _ :: _, [], _, _, _, _, h => h.elim
  | p :: ps, v :: vs, u :: us, fr, tmps, h, hp, hv => by
    have h1 : FrOk M ι ((p, some (.v v)) :: fr) ⟨tmps.setIfInBounds p u, []⟩ := frame_set (a := ⟨tmps, []⟩) h (hp p List.mem_cons_self) hv.1
    have h2 := setPs_ok (ps := ps) (vs := vs) (us := us) h1 (fun q hq => by rw [Array.size_setIfInBounds]; exact hp q (List.mem_cons_of_mem _ hq)) hv.2
    exact ⟨h2.1, h2.2.trans (by rw [Array.size_setIfInBounds])⟩

/-- How a round is left: what is pending. -/
def RdQ (K : Option Code → List (Nat × Ob) → Nat → Prop) : Exit → St → Prop
  | .normal, s => K none s.H s.nx
  | .ret, s => K (some .ret) s.H s.nx
  | .exit i, s => K (some (.exit i)) s.H s.nx
  | _, _ => False
/-- A round's contract. -/
def OkRd (P : Program) (lp : Lp) (vs : List V1) (H : List (Nat × Ob)) (nx : Nat) (K : Option Code → List (Nat × Ob) → Nat → Prop) : Prop :=
  ∀ l, Tri P lp.assign ⟨lp.n, setPs lp.ps vs lp.fr, H, nx⟩ (fun e s => e = .normal ∧ Tri P lp.body s (RdQ K) (some l)) (some l)

theorem InvH.cons {M : Mem} {ι : Iota} {H : List (Nat × Ob)} {nx : Nat} {w : World} (h : InvH M ι H nx w) {o : Nat} {ob : Ob} {x : Value × Nat} (hx : ι o = some x) (ho : RepOb M ι w x ob)
    (hb : ∀ b, blk x.1 = some b → (∀ k, M b k = none) ∧ ∀ p ∈ H, ∀ y, ι p.1 = some y → blk y.1 ≠ some b) : InvH M ι ((o, ob) :: H) nx w := by
  refine ⟨h.dom, h.one, fun p hp => ?_, List.Pairwise.cons (fun q hq y z b hy hz hb1 hb2 => ?_) h.sep, h.mem, fun p hp y b hy hb1 => ?_⟩
  · rcases List.mem_cons.1 hp with rfl | hp
    · exact ⟨x, hx, ho⟩
    · exact h.ob p hp
  · simp only at hy; rw [hx] at hy; cases hy
    exact (hb b hb1).2 q hq z hz hb2
  · rcases List.mem_cons.1 hp with rfl | hp
    · simp only at hy; rw [hx] at hy; cases hy; exact (hb b hb1).1
    · exact h.free p hp y b hy hb1
theorem InvH.noCell {M : Mem} {ι : Iota} {H : List (Nat × Ob)} {nx : Nat} {w : World} (h : InvH M ι H nx w) {b : Nat} {r : Loop} (hb : w.heap[b]? = some (.loop r)) (k : Nat) : M b k = none := by
  cases hu : M b k with
  | none => rfl
  | some u =>
    have := (h.mem b k u hu).1
    simp [World.cell?, hb] at this

/-- What a round has done. -/
structure RdEnd (K : Option Code → List (Nat × Ob) → Nat → Prop) (H : List (Nat × Ob)) (nx : Nat) (M : Mem) (ι : Iota) (w : World) (l : Nat) (r : Loop) (jump : Option Code) (H' : List (Nat × Ob)) (nx' : Nat) (M' : Mem) (ι' : Iota) (w' : World) : Prop where
  q : K jump H' nx'
  core : InvH M' ι' H' nx' w'
  mM : MLe M M'
  mι : ILe ι ι'
  mn : nx ≤ nx'
  past : Past (fun b => BlkOf ι H b ∨ b = l) w.heap.size nx M ι M' ι'
  kept : Kept (fun b => BlkOf ι H b ∨ b = l) w w'
  own : ∀ p ∈ H', ∀ x b, ι' p.1 = some x → blk x.1 = some b → BlkOf ι H b ∨ w.heap.size ≤ b
  rcd : w'.heap[l]? = some (.loop { r with state := if jump.isNone then .ready else .done, pending := jump })
theorem Kept.putObj {X : Nat → Prop} {w w' : World} (h : Kept X w w') {l : Nat} (hl : X l) (o : Obj) : Kept X w (w'.putObj l o) :=
  h.trans (Y := fun b => b = l) ⟨rfl, rfl, rfl, by simp [World.putObj], fun k _ hne => World.putObj_heap_other hne⟩ fun i _ e => e ▸ hl
theorem round_core {l : Nat} {r : Loop} {lp : Lp} {vs : List V1} {args : List Value} {H : List (Nat × Ob)} {nx : Nat} {K : Option Code → List (Nat × Ob) → Nat → Prop} {M : Mem} {ι : Iota} {w : World} (hl : w.heap[l]? = some (.loop r)) (hr : r.state = .ready)
    (hn : r.tmps.size = lp.n) (hfr : FrOk M ι lp.fr ⟨r.tmps, []⟩) (hps : r.params = lp.ps.toArray) (hpn : ∀ p ∈ lp.ps, p < lp.n) (has : r.assign = lp.assign) (hbo : r.body = lp.body) (hH : InvH M ι H nx w) (hfree : ∀ p ∈ H, ∀ x, ι p.1 = some x → blk x.1 ≠ some l)
    (hv : All2 (RepV1 M ι) vs args) (hk : OkRd P lp vs H nx K) :
    RoundIn (rf ro) (0 - 1) P l r.fn ((r.params.zip args.toArray).foldl (fun tmps (t, a) => tmps.setIfInBounds t a) r.tmps) r.assign r.body w fun e w' => ∃ jump H' nx' M' ι', e = .returned (.bool jump.isNone) ∧ RdEnd K H nx M ι w l r jump H' nx' M' ι' w' := by
  have hro : (rf ro).inRound l = rf (some l) := by cases ro <;> rfl
  have hlt : l < w.heap.size := (Array.getElem?_eq_some_iff.1 hl).1
  have hnl : ¬ BlkOf ι H l := fun ⟨p, hp, x, hx, hb⟩ => hfree p hp x hx hb
  refine roundIn_of_wpIn (rf_fn ro _) ?_
  rw [hro, has, hbo]
  have hz : ((r.params.zip args.toArray).foldl (fun tmps (t, a) => tmps.setIfInBounds t a) r.tmps) = (lp.ps.zip args).foldl (fun tmps (t, a) => tmps.setIfInBounds t a) r.tmps := by
    rw [hps, List.zip_toArray, List.foldl_toArray]
  rw [hz]
  have hf := setPs_ok (ps := lp.ps) hfr (fun p hp => by rw [hn]; exact hpn p hp) hv
  refine wpIn_mono (hk l ⟨w, M, ι, BlkOf ι H, nx, []⟩ M ι _ w ⟨hH, hf.1, hf.2.trans hn, rfl, .refl _, .refl _, .refl _ _, fun p hp x b hx hb => .inl ⟨p, hp, x, hx, hb⟩, .refl _ _ _ _ _, Nat.le_refl _⟩) ?_
  rintro e a1 w1 ⟨s1, M1, ι1, G1, ⟨rfl, hT⟩, hi1, hG1⟩
  obtain ⟨hM1, hι1, hk1, ho1, hp1, hn1⟩ := hi1.since hG1
  have hl1 : w1.heap[l]? = some (.loop r) := (hk1.block l hlt hnl).trans hl
  refine ⟨_, run_beginRound hl1 hr, ?_⟩
  have hlt1 : l < w1.heap.size := (Array.getElem?_eq_some_iff.1 hl1).1
  have hne1 : ∀ p ∈ s1.H, ∀ x, ι1 p.1 = some x → blk x.1 ≠ some l := fun p hp x hx hb => by
    rcases ho1 p hp x l hx hb with h | h
    · exact hnl h
    · simp only at h; omega
  have hc2 := hi1.core.putObj (o := .loop { r with state := .busy }) hl1 (fun _ _ _ => by simp) hne1
  have hl2 : (w1.putObj l (.loop { r with state := .busy })).heap[l]? = some (.loop { r with state := .busy }) := World.putObj_heap_same hlt1
  refine wpIn_mono (hT ⟨w1.putObj l (.loop { r with state := .busy }), M1, ι1, BlkOf ι1 s1.H, s1.nx, a1.defers⟩ M1 ι1 a1 _ ⟨hc2, hi1.fr, hi1.size, rfl, .refl _, .refl _, .refl _ _, fun p hp x b hx hb => .inl ⟨p, hp, x, hx, hb⟩, .refl _ _ _ _ _, Nat.le_refl _⟩) ?_
  rintro e a2 w3 ⟨s2, M2, ι2, G2, hq, hi2, hG2⟩
  obtain ⟨hM2, hι2, hk2, ho2, hp2, hn2⟩ := hi2.since hG2
  simp only at hM1 hι1 hk1 ho1 hp1 hn1 hM2 hι2 hk2 ho2 hp2 hn2
  have hnl1 : ¬ BlkOf ι1 s1.H l := fun ⟨p, hp, x, hx, hb⟩ => hne1 p hp x hx hb
  have hsz : (w1.putObj l (.loop { r with state := .busy })).heap.size = w1.heap.size := World.putObj_size
  have hl3 : w3.heap[l]? = some (.loop { r with state := .busy }) := (hk2.block l (by rw [hsz]; exact hlt1) hnl1).trans hl2
  have hlt3 : l < w3.heap.size := (Array.getElem?_eq_some_iff.1 hl3).1
  have hB1 : ∀ b, BlkOf ι1 s1.H b → BlkOf ι H b ∨ w.heap.size ≤ b := fun b ⟨p, hp, x, hx, hb⟩ => ho1 p hp x b hx hb
  have hs1 := hk1.size
  have hs2 := hk2.size
  have hown : ∀ p ∈ s2.H, ∀ x b, ι2 p.1 = some x → blk x.1 = some b → BlkOf ι H b ∨ w.heap.size ≤ b := fun p hp x b hx hb => by
    rcases ho2 p hp x b hx hb with h | h
    · exact hB1 b h
    · exact .inr (by omega)
  have hne2 : ∀ p ∈ s2.H, ∀ x, ι2 p.1 = some x → blk x.1 ≠ some l := fun p hp x hx hb => by
    rcases hown p hp x l hx hb with h | h
    · exact hnl h
    · omega
  have key : ∀ jump, K jump s2.H s2.nx → ∃ v w', (Instr.endRound l jump).run P w3 = .ok v w' ∧ ∃ jump' H' nx' M' ι', Ending.returned v = .returned (.bool jump'.isNone) ∧ RdEnd K H nx M ι w l r jump' H' nx' M' ι' w' := by
    intro jump hK
    refine ⟨_, _, run_endRound jump hl3, jump, s2.H, s2.nx, M2, ι2, rfl, hK, ?_, hM1.trans hM2, hι1.trans hι2, Nat.le_trans hn1 hn2, ?_, ?_, hown, World.putObj_heap_same hlt3⟩
    · exact hi2.core.putObj hl3 (fun _ _ _ => by simp) hne2
    · have := Past.trans hp1 hp2 hB1 (by omega) hn1
      exact ⟨fun b k h0 h1 => (this.seals b k h0 h1).imp_left .inl, this.olds⟩
    · refine Kept.putObj ?_ (.inr rfl) _
      have h12 : Kept (fun b => BlkOf ι H b ∨ b = l) w (w1.putObj l (.loop { r with state := .busy })) := Kept.putObj ⟨hk1.os, hk1.tape, hk1.output, hk1.size, fun k hk hx => hk1.block k hk fun h => hx (.inl h)⟩ (.inr rfl) _
      exact h12.trans hk2 fun i hi h => .inl ((hB1 i h).resolve_right (by omega))
  cases e with
  | normal => exact key none hq
  | ret => exact key _ hq
  | exit id => exact key _ hq
  | goto t => exact hq.elim
  | panic c => exact hq.elim
  | outgrown => exact hq.elim

/-- A call of yield. -/
theorem TOps.yield {ops : Array Oper} {l : List Oper} {Q : Exit → St → Prop} {n nx o : Nat} {fr : Fr} {H : List (Nat × Ob)} {d : Option Nat} {ty : TypeId} {pos : String} {aft : Array Edge} {x : Operand} {xs : Array Operand} {at' : Array TypeId} {lp : Lp} {H1 H2 : List (Nat × Ob)} {vs : List V1} {K : Option Code → List (Nat × Ob) → Nat → Prop}
    (hx : (St.mk n fr H nx).ev x = some (.one (.obj o))) (ha : argsOf (St.mk n fr H nx) xs.toList = some vs) (hlen : vs.length = lp.ps.length) (hpn : lp.ps.all (· < lp.n) = true) (hk : OkRd P lp vs H1 nx K) (hp : H.Perm (((o, .loop lp none) :: H1) ++ H2))
    (k : ∀ j H' nx', K j H' nx' → TOps P ops l ⟨n, setD d (some (.lit (.bool j.isNone))) fr, ((o, .loop lp j) :: H') ++ H2, nx'⟩ Q ro) (hd : fits d n = true := by rfl) :
    TOps P ops (⟨d, .call { callee := .value x, args := xs, argTypes := at' }, ty, pos, aft, none⟩ :: l) ⟨n, fr, H, nx⟩ Q ro := by
  intro G M ι a w hi
  refine wpListIn_plain rfl fun K' hK' => ?_
  have hc := hi.core.perm hp
  obtain ⟨x0, hx0, l0, r, hx1, hl, hn, hfr, hps, has, hbo, hst, hpe⟩ := hc.ob (o, .loop lp none) List.mem_cons_self
  obtain ⟨sz, hsz⟩ := hi.ev hx
  simp only at hx0
  rw [hx0] at hsz; cases hsz
  simp only at hx1
  have hargs := args_rep hi ha
  have hal : (xs.toList.map a.eval).length = lp.ps.length := hargs.len ▸ hlen
  have hrun : (execOp a.eval ⟨d, .call { callee := .value x, args := xs, argTypes := at' }, ty, pos, aft, none⟩).run P w = .ok (.round l0 r.fn ((r.params.zip (xs.map a.eval)).foldl (fun tmps (t, a) => tmps.setIfInBounds t a) r.tmps) r.assign r.body) w := by
    have h1 := run_yield (P := P) (args := xs.map a.eval) hl (by rw [hps]; simpa using hal)
    generalize ((r.params.zip (xs.map a.eval)).foldl (fun tmps (t, a) => tmps.setIfInBounds t a) r.tmps) = T at h1 ⊢
    simp [execOp, resolve, Deferred.ofValue, hx1, invoke, h1]
  refine ⟨fun f _ => rf_fn ro f, ?_⟩
  have hs : (Oper.semAt (rf ro).round a.eval ⟨d, .call { callee := .value x, args := xs, argTypes := at' }, ty, pos, aft, none⟩) = execOp a.eval ⟨d, .call { callee := .value x, args := xs, argTypes := at' }, ty, pos, aft, none⟩ := by
    unfold Oper.semAt
    split
    · rename_i c h1 hc; cases hc
    · rfl
  rw [hs, hrun, Oper.uponIn_round]
  refine ⟨(fun h => by rw [rf_depth] at h; cases h), ?_⟩
  have hcH : InvH M ι H1 nx w := hc.sub ((List.sublist_append_left ..).trans (List.sublist_cons_self ..))
  have hsepA := List.pairwise_cons.1 hc.sep
  have hfree : ∀ p ∈ H1, ∀ y, ι p.1 = some y → blk y.1 ≠ some l0 := fun p hp' y hy => hsepA.1 p (List.mem_append_left _ hp') _ y l0 hx0 hy (by simp only; rw [hx1]; rfl)
  have hR := round_core (ro := ro) (K := K) hl (by rw [hst]; rfl) hn hfr hps (fun p hp' => by have := List.all_eq_true.1 hpn p hp'; simpa using this) has hbo hcH hfree hargs hk
  have hxa : (xs.toList.map a.eval).toArray = xs.map a.eval := by rw [← Array.toList_map, Array.toArray_toList]
  rw [hxa] at hR
  refine hR.mono ?_
  rintro e w' ⟨j, H', nx', M', ι', rfl, hE⟩
  have hlt : l0 < w.heap.size := (Array.getElem?_eq_some_iff.1 hl).1
  have hBl : BlkOf ι ((o, Ob.loop lp none) :: H1) l0 := ⟨_, List.mem_cons_self, _, hx0, by simp only; rw [hx1]; rfl⟩
  have hB : ∀ b, (BlkOf ι H1 b ∨ b = l0) → BlkOf ι ((o, Ob.loop lp none) :: H1) b := by
    rintro b (⟨p, hp', y, hy, hb⟩ | rfl)
    · exact ⟨p, List.mem_cons_of_mem _ hp', y, hy, hb⟩
    · exact hBl
  have core : InvH M' ι' ((o, .loop lp j) :: H') nx' w' := by
    refine hE.core.cons (hE.mι _ _ hx0) ⟨l0, _, hx1, hE.rcd, hn, frame_mono hE.mM hE.mι hfr, hps, has, hbo, rfl, rfl⟩ fun b hb => ?_
    rw [hx1] at hb; simp only [blk, Option.some.injEq] at hb; subst hb
    refine ⟨hE.core.noCell hE.rcd, fun p hp' y hy hby => ?_⟩
    rcases hE.own p hp' y l0 hy hby with ⟨q, hq, z, hz, hbz⟩ | h
    · exact hfree q hq z hz hbz
    · omega
  refine hK' _ _ (k j H' nx' hE.q G M' ι' _ w' ?_)
  refine call_post (st := ⟨n, fr, H, nx⟩) hi hp (r := .lit (.bool j.isNone)) (RepC.lit _) core hE.mM hE.mι hE.mn ⟨fun b k h0 h1 => (hE.past.seals b k h0 h1).imp_left (hB b), hE.past.olds⟩ ⟨hE.kept.os, hE.kept.tape, hE.kept.output, hE.kept.size, fun k hk hx => hE.kept.block k hk fun h => hx (hB k h)⟩ ?_ hd
  intro p hp' y b hy hb
  rcases List.mem_cons.1 hp' with rfl | hp'
  · simp only at hy
    rw [hE.mι _ _ hx0] at hy; cases hy
    rw [hx1] at hb; simp only [blk, Option.some.injEq] at hb; subst hb
    exact .inl hBl
  · exact (hE.own p hp' y b hy hb).imp_left fun h => hB b (.inl h)

/-- How a range over a function goes on. -/
def RfQ (P : Program) (Q : Exit → St → Prop) : Option Code → St → Prop
  | none, s => Q .normal s
  | some c, s => Tri P c s Q
theorem RfQ.n {Q : Exit → St → Prop} {s : St} (h : Q .normal s) : RfQ P Q none s := h
theorem RfQ.j {Q : Exit → St → Prop} {s : St} {c : Code} (h : Tri P c s Q) : RfQ P Q (some c) s := h
/-- What is shown of a range's code, and then used. -/
theorem Tri.rfWith {Q : Exit → St → Prop} {st : St} {g : Operand} {ps : Array Nat} {assign body : Code} {R : Code → Code → Prop} (h : R assign body) (k : R assign body → Tri P (.rangeFunc g ps assign body) st Q ro) : Tri P (.rangeFunc g ps assign body) st Q ro := k h
/-- Every way of leaving may weaken what was known. -/
theorem Tri.fallA {Q : Exit → St → Prop} {st : St} {c : Code} (h : Tri P c st (fun e s => ∃ s', Weak s s' ∧ Q e s') ro) : Tri P c st Q ro := by
  intro G M ι a w hi
  refine wpIn_mono (h G M ι a w hi) fun e a' w' ⟨s, M', ι', G', ⟨s', hw, hq⟩, h2, hG⟩ => ?_
  obtain ⟨M2, ι2, h3⟩ := hw G' M' ι' a' w' h2
  exact ⟨s', M2, ι2, G', hq, h3, hG⟩
/-- The statement that ranges over a function. -/
theorem Tri.rangeFunc {Q : Exit → St → Prop} {n nx : Nat} {fr : Fr} {H : List (Nat × Ob)} {g : Operand} {ps : Array Nat} {assign body : Code} {f : FuncId} {caps : List Nat} {H1 H2 : List (Nat × Ob)} {K : V → List (Nat × Ob) → Nat → Prop} (fs : List Nat) {fr' : Fr} (hfr : keepFr fr fs = fr')
    (hg : (St.mk n fr H nx).ev g = some (.one (.fn f caps))) (he : Enters P f) (hp : H.Perm (H1 ++ H2))
    (hk : OkH P f (.one (.obj nx) :: caps.map fun o => .one (.ptr o 0 0)) ((nx, .loop ⟨n, fr', ps.toList, assign, body⟩ none) :: H1) (nx + 1) K)
    (k : ∀ r H' nx', K r H' nx' → ∃ j lp H'', H' = (nx, .loop lp j) :: H'' ∧ RfQ P Q j ⟨n, fr, H'' ++ H2, nx'⟩) : Tri P (.rangeFunc g ps assign body) ⟨n, fr, H, nx⟩ Q := by
  intro G M ι a w hi
  refine wpIn_rangeFunc fun fn _ => ?_
  obtain ⟨us, hu, hcap⟩ := hi.ev hg
  have hro : (rf none).round = none := rfl
  rw [hro]
  let w1 := (w.alloc (.deferred (some []))).alloc (.loop { state := .ready, pending := none, fn, tmps := a.tmps, params := ps, assign, body, defers := w.heap.size })
  refine ⟨_, _, w1, ⟨.fn (.func f) us.toArray, #[.func (.yield (w.heap.size + 1)) #[] #[]]⟩, w1, f, #[.func (.yield (w.heap.size + 1)) #[] #[]] ++ us.toArray, w1, run_enterLoop_outer fn a.tmps ps assign body, ?_, fun _ _ => trivial, ?_, (fun h => by rw [rf_depth] at h; cases h), ?_⟩
  · have hy : a.eval (.const (.func (.yield (w.heap.size + 1)) #[] #[])) = .func (.yield (w.heap.size + 1)) #[] #[] := rfl
    simp [resolve, rangeCall, Deferred.ofValue, hu, hy]
  · simp only [invoke]
    exact he _ _
  · refine callsIn_wide.2 ?_
    have hs1 : w1.heap.size = w.heap.size + 2 := by show ((w.heap.push _).push _).size = _; rw [Array.size_push, Array.size_push]
    have hlow : ∀ k, k < w.heap.size → w1.heap[k]? = w.heap[k]? := fun k hk => by
      show ((w.heap.push _).push _)[k]? = _
      rw [Array.getElem?_push, if_neg (by simp; omega), Array.getElem?_push, if_neg (by omega)]
    have hD : w1.heap[w.heap.size]? = some (.deferred (some [])) := by
      show ((w.heap.push _).push _)[w.heap.size]? = _
      rw [Array.getElem?_push, if_neg (by simp)]; simp
    have hL : w1.heap[w.heap.size + 1]? = some (.loop { state := .ready, pending := none, fn, tmps := a.tmps, params := ps, assign, body, defers := w.heap.size }) := by
      show ((w.heap.push _).push _)[w.heap.size + 1]? = _
      rw [Array.getElem?_push, if_pos (by simp)]
    let y : Value × Nat := (.func (.yield (w.heap.size + 1)) #[] #[], 0)
    let ι1 := iset ι nx y
    have hle : ILe ι ι1 := ile_iset hi.core.dom y
    have hold : ∀ o z, o < nx → ι1 o = some z → ι o = some z := fun o z ho hz => by simp only [ι1, iset] at hz; rwa [if_neg (by omega)] at hz
    have hnew : ι1 nx = some y := by simp [ι1, iset]
    have hc1 : InvH M ι H nx w1 := hi.core.grown (row := none) (fun k hk _ => hlow k hk) (fun b hb => by cases hb)
    have hfr1 : FrOk M ι1 fr a := frame_mono (.refl _) hle hi.fr
    have hcore : InvH M ι1 ((nx, .loop ⟨n, fr', ps.toList, assign, body⟩ none) :: H) (nx + 1) w1 := by
      refine hc1.add (x := y) ⟨_, _, rfl, hL, hi.size, fun t v ht => ?_, by simp, rfl, rfl, rfl, rfl⟩ rfl fun b hb => ?_
      · subst hfr
        exact hfr1 t v (keepFr_look _ _ _ _ ht)
      · simp only [y, blk, Option.some.injEq] at hb; subst hb
        exact ⟨(hi.core.fresh (by omega)).1, (hi.core.fresh (b := w.heap.size + 1) (by omega)).2⟩
    have hlt : ∀ p ∈ H, p.1 < nx := fun p hp' => let ⟨z, hz, _⟩ := hi.core.ob p hp'; hi.core.dom _ _ hz
    let X : Nat → Prop := fun b => BlkOf ι H b ∨ b = w.heap.size + 1
    let G1 : Gh := ⟨w1, M, ι1, X, nx + 1, markOf w.heap.size :: G.df⟩
    have hkw : Kept (fun _ => False) w w1 := ⟨rfl, rfl, rfl, by omega, fun k hk _ => hlow k hk⟩
    have hG : GLe G G1 := by
      refine ⟨hi.M0, hi.ι0.trans hle, hi.kept.trans hkw fun _ _ h => h.elim, fun b hb => ?_, hi.past.1.iset hi.past.2 y, Nat.le_succ_of_le hi.past.2, [w.heap.size], rfl, fun D hD' => ?_, by simp⟩
      · rcases hb with ⟨p, hp', x, hx, hb⟩ | rfl
        · exact hi.own p hp' x b hx hb
        · exact .inr (Nat.le_succ_of_le hi.kept.size)
      · have : D = w.heap.size := by simpa using hD'
        subst this
        refine ⟨hi.kept.size, by show _ < w1.heap.size; omega, fun hx => ?_, hD⟩
        rcases hx with ⟨p, hp', x, hx, hb⟩ | h
        · obtain ⟨z, hz, ho⟩ := hi.core.ob p hp'
          rw [hx] at hz; cases hz
          exact absurd (ho.lt _ hb) (by omega)
        · omega
    have hi1 : Inv G1 M ι1 ⟨n, fr, (nx, .loop ⟨n, fr', ps.toList, assign, body⟩ none) :: H, nx + 1⟩ { a with defers := [markOf w.heap.size] ++ a.defers } w1 := by
      refine ⟨hcore, hfr1, hi.size, by simp [G1, hi.defers], .refl _, .refl _, .refl _ _, fun p hp' x b hx hb => .inl ?_, .refl _ _ _ _ _, Nat.le_refl _⟩
      rcases List.mem_cons.1 hp' with rfl | hp'
      · simp only at hx; rw [hnew] at hx; cases hx
        simp only [y, blk, Option.some.injEq] at hb; subst hb; exact .inr rfl
      · exact .inl ⟨p, hp', x, hold _ _ (hlt p hp') hx, hb⟩
    have hargs : All2 (RepV1 M ι1) (.one (.obj nx) :: caps.map fun o => .one (.ptr o 0 0)) (Value.func (.yield (w.heap.size + 1)) #[] #[] :: us) := by
      refine ⟨⟨0, hnew⟩, ?_⟩
      have key : ∀ (cs : List Nat) (us : List Value), All2 (fun o v => PtrTo ι o 0 0 v) cs us → All2 (RepV1 M ι1) (cs.map fun o => .one (.ptr o 0 0)) us := by
        intro cs
        induction cs with
        | nil => intro us h; cases us with | nil => trivial | cons => exact h.elim
        | cons c cs ih => intro us h; cases us with | nil => exact h.elim | cons u us => exact ⟨PtrTo.mono hle h.1, ih us h.2⟩
      exact key _ _ hcap
    have hva : #[Value.func (.yield (w.heap.size + 1)) #[] #[]] ++ us.toArray = (Value.func (.yield (w.heap.size + 1)) #[] #[] :: us).toArray := by simp
    rw [hva]
    refine (call_core (d := none) hi1 hk (hp.cons _) hargs rfl (K := fun a' w' => rangePost (rf none) 0 P (w.heap.size + 1) (Lift G Q) a' (.returned undef) w') ?_).mono ?_
    · rintro st' M' ι' a' w' ⟨r, H', nx', hq, rfl⟩ hi'
      obtain ⟨j, lp, H'', rfl, hQ⟩ := k r H' nx' hq
      have hx' : ι' nx = some y := hi'.ι0 _ _ hnew
      obtain ⟨z, hz, l0, rr, h1, h2, h3, h4, h5, h6, h7, h8, h9⟩ := hi'.core.ob (nx, .loop lp j) List.mem_cons_self
      simp only at hz; rw [hx'] at hz; cases hz
      have hl0 : l0 = w.heap.size + 1 := by simp only [y] at h1; cases h1; rfl
      subst hl0
      refine ⟨_, _, run_endLoop h2 (by rw [h8]; cases j <;> simp), ?_⟩
      have hsepA := List.pairwise_cons.1 hi'.core.sep
      have hfin : Inv G1 M' ι' ⟨n, fr, H'' ++ H2, nx'⟩ a' (w'.putObj (w.heap.size + 1) (.loop { rr with state := .exhausted })) := by
        refine ⟨(hi'.core.sub (List.sublist_cons_self ..)).putObj h2 (fun _ _ _ => by simp) fun p hp' x hx => ?_, hi'.fr, hi'.size, hi'.defers, hi'.M0, hi'.ι0, hi'.kept.putObj (.inr rfl) _, fun p hp' => hi'.own p (List.mem_cons_of_mem _ hp'), hi'.past⟩
        exact hsepA.1 p hp' _ x _ hx' hx rfl
      have hj : rr.pending = j := h9
      clear h9
      generalize hww : (w'.putObj (w.heap.size + 1) (.loop { rr with state := .exhausted })) = ww at hfin ⊢
      rw [hj]
      match j, hQ with
      | none, hQ => exact ⟨_, M', ι', G1, hQ, hfin, hG⟩
      | some c, hQ => exact wpIn_mono (hQ G1 M' ι' a' ww hfin) fun _ _ _ => Lift.later hG
    · rintro e w' ⟨v, rfl, h⟩
      exact h
theorem InvH.reob {M : Mem} {ι : Iota} {H : List (Nat × Ob)} {nx : Nat} {w : World} (h : InvH M ι H nx w) {k o : Nat} {ob ob' : Ob} (hk : H[k]? = some (o, ob)) (hr : ∀ x, RepOb M ι w x ob → RepOb M ι w x ob') : InvH M ι (H.set k (o, ob')) nx w := by
  have hmem : ∀ p ∈ H.set k (o, ob'), (p = (o, ob')) ∨ p ∈ H := fun p hp => (List.mem_or_eq_of_mem_set hp).symm
  have ho : ∃ x, ι o = some x ∧ RepOb M ι w x ob := h.ob _ (getElem?_mem hk)
  have hmap : (H.set k (o, ob')).map Prod.fst = H.map Prod.fst := by
    rw [List.map_set]
    apply List.ext_getElem?
    intro i
    rw [List.getElem?_set]
    split
    · rename_i h1; subst h1
      split
      · simp [hk]
      · rename_i h2; rw [List.getElem?_eq_none (by omega)]
    · rfl
  refine ⟨h.dom, h.one, fun p hp => ?_, ?_, h.mem, fun p hp => ?_⟩
  · rcases hmem p hp with rfl | hp
    · obtain ⟨x, hx, hob⟩ := ho; exact ⟨x, hx, hr x hob⟩
    · exact h.ob p hp
  · have h1 : (H.map Prod.fst).Pairwise fun p q => ∀ x y b, ι p = some x → ι q = some y → blk x.1 = some b → blk y.1 ≠ some b := List.pairwise_map.2 h.sep
    rw [← hmap] at h1
    exact List.pairwise_map.1 h1
  · rcases hmem p hp with rfl | hp
    · exact h.free (o, ob) (getElem?_mem hk)
    · exact h.free p hp
theorem All2.setL {α β : Type} {R : α → β → Prop} : ∀ {as : List α} {bs : List β} (k : Nat) (a : α), All2 R as bs → (∀ a' b, as[k]? = some a' → R a' b → R a b) → All2 R (as.set k a) bs
  | [], [], _, _, _, _ => trivial
  | _ :: _, _ :: _, 0, _, h, hr => ⟨hr _ _ rfl h.1, h.2⟩
  | _ :: _, _ :: _, k + 1, a, h, hr => ⟨h.1, All2.setL k a h.2 fun a' b ha => hr a' b (by simpa using ha)⟩
  | [], _ :: _, _, _, h, _ => h.elim
  | _ :: _, [], _, _, h, _ => h.elim
/-- A nil slice in a variable, that will be appended to, is an object. -/
theorem Weak.virtB {n nx o : Nat} {fr : Fr} {H : List (Nat × Ob)} {eb : TypeId} {cs : List A} (e : TypeId) (sz k j : Nat) (hk : H[k]? = some (o, .box eb cs)) (hj : cs[j]? = some (.c (.lit (.slice none 0 0)))) :
    Weak ⟨n, fr, H, nx⟩ ⟨n, fr, (nx, .row e sz []) :: H.set k (o, .box eb (cs.set j (.obj nx))), nx + 1⟩ := by
  intro G M ι a w hi
  have h2 := hi.virt e sz
  have hc := h2.core.reob (k := k + 1) (o := o) (ob := .box eb cs) (ob' := .box eb (cs.set j (.obj nx))) (by simpa using hk) fun x ⟨b, xs, h1, h2, h3, h4⟩ => by
    refine ⟨b, xs, by simpa using h1, h2, All2.setL j _ h3 fun a' v ha hr => ?_, h4⟩
    rw [hj] at ha; cases ha
    cases hr
    exact ⟨sz, by simp [iset]⟩
  refine ⟨M, _, hc, h2.fr, h2.size, h2.defers, h2.M0, h2.ι0, h2.kept, fun p hp => ?_, h2.past⟩
  rcases List.mem_cons.1 hp with rfl | hp
  · exact h2.own _ List.mem_cons_self
  rcases List.mem_or_eq_of_mem_set hp with hp | rfl
  · exact h2.own p (List.mem_cons_of_mem _ hp)
  · exact h2.own (o, .box eb cs) (List.mem_cons_of_mem _ (getElem?_mem hk))
end
end Go.Fl
