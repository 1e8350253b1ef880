/- Contracts of functions over states, calls, and what is sealed. Lemmas alone. -/
import Derived.Test.YtlaommikkfojfaaGreatDoorFlMore
import Derived.RangeFuncRecord
namespace Go.Fl
open Go

/-- A block of one of these objects. -/
def BlkOf (ι : Iota) (H : List (Nat × Ob)) (b : Nat) : Prop := ∃ p ∈ H, ∃ x, ι p.1 = some x ∧ blk x.1 = some b

/-- A function's contract: called with these values, over these objects, it returns one of the values and objects Q. -/
def OkH (P : Program) (f : FuncId) (as : List V1) (H : List (Nat × Ob)) (nx : Nat) (Q : V → List (Nat × Ob) → Nat → Prop) : Prop :=
  ∀ M ι (vs : List Value) w, All2 (RepV1 M ι) as vs → InvH M ι H nx w → Calls P f vs.toArray w fun e w' => ∃ v M' ι' r H' nx', e = .returned v ∧ Q r H' nx' ∧ RepV M' ι' r v ∧ InvH M' ι' H' nx' w' ∧ MLe M M' ∧ ILe ι ι' ∧ nx ≤ nx' ∧
    Past (BlkOf ι H) w.heap.size nx M ι M' ι' ∧ Kept (BlkOf ι H) w w' ∧ (∀ p ∈ H', ∀ x b, ι' p.1 = some x → blk x.1 = some b → BlkOf ι H b ∨ w.heap.size ≤ b)

theorem OkH.mono {P : Program} {f : FuncId} {as : List V1} {H : List (Nat × Ob)} {nx : Nat} {Q Q' : V → List (Nat × Ob) → Nat → Prop} (h : OkH P f as H nx Q) (hq : ∀ r H' nx', Q r H' nx' → Q' r H' nx') : OkH P f as H nx Q' :=
  fun M ι vs w h1 h2 => (h M ι vs w h1 h2).mono fun _ _ ⟨v, M', ι', r, H', nx', a1, a2, a3⟩ => ⟨v, M', ι', r, H', nx', a1, hq _ _ _ a2, a3⟩

/-- A result of a function, in a state. -/
def Res (P : Program) (st : St) (rv : ResultVar) (v : V1) : Prop :=
  match rv with
  | .tmp t => st.get t = some (.v v)
  | .cell p t => ∃ a cs, st.get p = some (.one a) ∧ Leads st a cs ∧ ((∃ c r, (∀ w, (isAgg t).run P w = .ok false w) ∧ cs = c :: r ∧ v = .one c) ∨ ∃ n, (∀ w, (isAgg t).run P w = .ok true w) ∧ (∀ w, (sizeOf t).run P w = .ok n w) ∧ n ≤ cs.length ∧ v = .agg (cs.take n))

def resRun (tmps : Array Value) : ResultVar → Sem Value
  | .tmp t => pure (tmps.getD t undef)
  | .cell a t => do loadVar t (← asAddr (tmps.getD a undef))
theorem results_eq (fn : Func) (tmps : Array Value) : results fn tmps = (do let vs ← fn.results.mapM (resRun tmps); pure (if h : vs.size = 1 then vs[0] else .tuple vs)) := by
  unfold results
  congr 1

section
variable {P : Program} {st : St} {fn : Func}
theorem Res.run {rv : ResultVar} {v : V1} (h : Res P st rv v) {G : Gh} {M : Mem} {ι : Iota} {a : Act} {w : World} (hi : Inv G M ι st a w) :
    ∃ u, (resRun a.tmps rv).run P w = .ok u w ∧ RepV1 M ι v u := by
  cases rv with
  | tmp t => exact ⟨_, rfl, hi.ev (x := .tmp t) h⟩
  | cell p t =>
    obtain ⟨a', cs, h1, h2, h3⟩ := h
    have hp := hi.ev (x := .tmp p) h1
    have hc := h2 G M ι a w hi _ hp
    have hc' := hc
    obtain ⟨b, k, hb, us, hu, h4⟩ := hc
    have hb' : a.tmps.getD p undef = .pointer (some ⟨b, k, none⟩) := hb
    rcases h3 with ⟨c, r, hag, rfl, rfl⟩ | ⟨n, hag, hsz, hn, rfl⟩
    · obtain ⟨x, hx, hr⟩ := run_loadVar_one hc' hag
      refine ⟨x, ?_, hr⟩
      replace hx := hx w hi.core.same
      rw [hb] at hx
      simp only [Instr.loadAt, Instr.sureAddr] at hx
      simp only [resRun, hb', asAddr]
      exact hx
    · obtain ⟨x, hx, hr⟩ := run_loadVar_agg hc' hn hag hsz
      refine ⟨x, ?_, hr⟩
      replace hx := hx w hi.core.same
      rw [hb] at hx
      simp only [Instr.loadAt, Instr.sureAddr] at hx
      simp only [resRun, hb', asAddr]
      exact hx

/-- All results of a function, in a state. -/
def Results (P : Program) (st : St) (fn : Func) (v : V) : Prop :=
  (fn.results = #[] ∧ v = .tup []) ∨ (∃ r x, fn.results = #[r] ∧ Res P st r x ∧ v = .v x) ∨ (∃ r1 r2 x1 x2, fn.results = #[r1, r2] ∧ Res P st r1 x1 ∧ Res P st r2 x2 ∧ v = .tup [x1, x2]) ∨
    ∃ r1 r2 r3 x1 x2 x3, fn.results = #[r1, r2, r3] ∧ Res P st r1 x1 ∧ Res P st r2 x2 ∧ Res P st r3 x3 ∧ v = .tup [x1, x2, x3]

theorem Results.run {v : V} (h : Results P st fn v) {G : Gh} {M : Mem} {ι : Iota} {a : Act} {w : World} (hi : Inv G M ι st a w) : ∃ u, (results fn a.tmps).run P w = .ok u w ∧ RepV M ι v u := by
  rcases h with ⟨h, rfl⟩ | ⟨r, x, h, h1, rfl⟩ | ⟨r1, r2, x1, x2, h, h1, h2, rfl⟩ | ⟨r1, r2, r3, x1, x2, x3, h, h1, h2, h3, rfl⟩
  · exact ⟨.tuple #[], by simp [results_eq, h], [], rfl, trivial⟩
  · obtain ⟨u, e1, e2⟩ := h1.run hi
    refine ⟨u, ?_, e2⟩
    simp only [results_eq, h, Sem.run_bind, Array.mapM_eq_mapM_toList, List.mapM_cons, List.mapM_nil, Sem.run_map, e1, Result.andThen_ok, Sem.run_pure]
    simp
  · obtain ⟨u1, e1, f1⟩ := h1.run hi
    obtain ⟨u2, e2, f2⟩ := h2.run hi
    refine ⟨.tuple #[u1, u2], ?_, [u1, u2], rfl, f1, f2, trivial⟩
    simp only [results_eq, h, Sem.run_bind, Array.mapM_eq_mapM_toList, List.mapM_cons, List.mapM_nil, Sem.run_map, e1, e2, Result.andThen_ok, Sem.run_pure]
    simp
  · obtain ⟨u1, e1, f1⟩ := h1.run hi
    obtain ⟨u2, e2, f2⟩ := h2.run hi
    obtain ⟨u3, e3, f3⟩ := h3.run hi
    refine ⟨.tuple #[u1, u2, u3], ?_, [u1, u2, u3], rfl, f1, f2, f3, trivial⟩
    simp only [results_eq, h, Sem.run_bind, Array.mapM_eq_mapM_toList, List.mapM_cons, List.mapM_nil, Sem.run_map, e1, e2, e3, Result.andThen_ok, Sem.run_pure]
    simp

def slots : Nat → List V1 → Fr
  | _, [] => []
  | i, v :: r => (i, some (.v v)) :: slots (i + 1) r
theorem slots_rep {M : Mem} {ι : Iota} : ∀ {as : List V1} {vs : List Value} (i : Nat) (pre post : List Value), pre.length = i → All2 (RepV1 M ι) as vs → ∀ t v, look t (slots i as) = some v → ∃ u, ((pre ++ vs ++ post).toArray)[t]? = some u ∧ RepV M ι v u
  | [], _, _, _, _, _, _, t, v, hp => by simp [slots, look] at hp
  | a :: as, v :: vs, i, pre, post, hl, h, t, x, hp => by
    simp only [slots, look] at hp
    cases hb : Nat.beq i t with
    | true =>
      have : i = t := Nat.eq_of_beq_eq_true hb
      subst this
      rw [hb] at hp
      simp only [Option.some.injEq] at hp; subst hp
      refine ⟨v, ?_, h.1⟩
      subst hl
      simp
    | false =>
      rw [hb] at hp
      have := slots_rep (as := as) (vs := vs) (i + 1) (pre ++ [v]) post (by simp [hl]) h.2 t x hp
      simpa using this
  | _ :: _, [], _, _, _, _, h, _, _, _ => h.elim

/-- The marks of loops that are over are taken: nothing is called. -/
theorem leaves_marks {tmps : Array Value} {R : Ending → World → Prop} {M : Mem} {ι : Iota} {H : List (Nat × Ob)} {nx : Nat} {X : Nat → Prop} {w0 : World} : ∀ (Ds : List Nat) (w : World), Ds.Nodup → (∀ D ∈ Ds, w0.heap.size ≤ D ∧ w.heap[D]? = some (.deferred (some [])) ∧ ∀ p ∈ H, ∀ x, ι p.1 = some x → blk x.1 ≠ some D) →
    InvH M ι H nx w → Kept X w0 w → (∀ w', InvH M ι H nx w' → Kept X w0 w' → ∃ v, (results fn tmps).run P w' = .ok v w' ∧ R (.returned v) w') → LeavesInM Fence.wide 0 P fn tmps R (Ds.map markOf) .returning w
  | [], w, _, _, hi, hk, h => h w hi hk
  | D :: Ds, w, hn, hD, hi, hk, h => by
    obtain ⟨h0, h1, h2⟩ := hD D List.mem_cons_self
    have hnd := List.nodup_cons.1 hn
    refine ⟨by simp, .inl ⟨D, _, rfl, run_takeDeferred h1, ?_⟩⟩
    refine leaves_marks Ds _ hnd.2 (fun E hE => ?_) (hi.putObj h1 (fun _ _ _ => by simp) h2) ?_ h
    · obtain ⟨a1, a2, a3⟩ := hD E (List.mem_cons_of_mem _ hE)
      refine ⟨a1, ?_, a3⟩
      rw [World.putObj_heap_other fun e => hnd.1 (by subst e; exact hE)]; exact a2
    · refine hk.trans (Y := fun b => b = D) ⟨rfl, rfl, rfl, by simp [World.putObj], fun k hk hne => World.putObj_heap_other hne⟩ fun i hi e => by omega

theorem OkH.intro {f : FuncId} {c : Code} {n : Nat} {as : List V1} {H : List (Nat × Ob)} {nx : Nat} {Q : V → List (Nat × Ob) → Nat → Prop} (hf : P.funcs[f]? = some fn) (hb : fn.body = some c) (hn : fn.ntmps = n) (hl : as.length ≤ n)
    (hT : Tri P c ⟨n, slots 0 as, H, nx⟩ fun e s => (e = .ret ∨ e = .normal) ∧ ∃ r, Results P s fn r ∧ Q r s.H s.nx) : OkH P f as H nx Q := by
  intro M ι vs w ha hi
  have hlen := ha.len
  refine (callsIn_wide (n := 0)).1 (callsIn_of_wp_marks hf hb trivial (wpIn_mono (hT ⟨w, M, ι, BlkOf ι H, nx, []⟩ M ι _ w ⟨hi, ?_, ?_, rfl, .refl _, .refl _, .refl _ _, fun p hp x b hx hb => .inl ⟨p, hp, x, hx, hb⟩, ⟨fun b k h1 h2 => absurd h1 h2, fun o x hx _ => hx⟩, Nat.le_refl _⟩) fun e a' w' ⟨s, M', ι', G', ⟨he, r, hr, hq⟩, hi', hG⟩ => ?_))
  · intro t v hp
    have := slots_rep (M := M) (ι := ι) 0 [] (List.replicate (fn.ntmps - vs.toArray.size) undef) rfl ha t v hp
    have he : (vs.toArray ++ Array.replicate (fn.ntmps - vs.toArray.size) undef) = (vs ++ List.replicate (fn.ntmps - vs.toArray.size) undef).toArray := by simp
    simp only [he]
    simpa using this
  · simp; omega
  · obtain ⟨hM, hι, hkept, hown, hpast, hnx⟩ := hi'.since hG
    obtain ⟨Ds, hdf, hmk, hnd⟩ := hG.marks
    have key : LeavesInM Fence.wide 0 P fn a'.tmps (fun e w' => ∃ v M' ι' r H' nx', e = .returned v ∧ Q r H' nx' ∧ RepV M' ι' r v ∧ InvH M' ι' H' nx' w' ∧ MLe M M' ∧ ILe ι ι' ∧ nx ≤ nx' ∧
        Past (BlkOf ι H) w.heap.size nx M ι M' ι' ∧ Kept (BlkOf ι H) w w' ∧ (∀ p ∈ H', ∀ x b, ι' p.1 = some x → blk x.1 = some b → BlkOf ι H b ∨ w.heap.size ≤ b)) a'.defers .returning w' := by
      have hdf' : a'.defers = Ds.map markOf := by rw [hi'.defers, hdf]; simp
      rw [hdf']
      refine leaves_marks (M := M') (ι := ι') (H := s.H) (nx := s.nx) (X := BlkOf ι H) (w0 := w) Ds w' hnd (fun D hD => ?_) hi'.core hkept fun w'' h1 h2 => ?_
      · obtain ⟨a1, a2, a3, a4⟩ := hmk D hD
        refine ⟨a1, by rw [hi'.kept.block D a2 a3]; exact a4, fun p hp x hx hb => ?_⟩
        rcases hi'.own p hp x D hx hb with h | h
        · exact a3 h
        · omega
      · obtain ⟨u, hu, hrep⟩ := hr.run (G := ⟨w'', M', ι', fun _ => True, 0, a'.defers⟩) (M := M') (ι := ι') (a := a') (w := w'') ⟨h1, hi'.fr, hi'.size, rfl, .refl _, .refl _, .refl _ _, fun _ _ _ _ _ _ => .inl trivial, .refl _ _ _ _ _, Nat.zero_le _⟩
        exact ⟨u, hu, u, M', ι', r, s.H, s.nx, rfl, hq, hrep, h1, hM, hι, hnx, hpast, h2, hown⟩
    rcases he with rfl | rfl
    · exact key
    · exact key

/-- The arguments of a call, in a state. -/
def argsOf (st : St) : List Operand → Option (List V1)
  | [] => some []
  | x :: r => match st.ev x, argsOf st r with
    | some (.v v), some l => some (v :: l)
    | _, _ => none
theorem args_rep {G : Gh} {M : Mem} {ι : Iota} {a : Act} {w : World} (hi : Inv G M ι st a w) : ∀ {xs : List Operand} {vs : List V1}, argsOf st xs = some vs → All2 (RepV1 M ι) vs (xs.map a.eval)
  | [], vs, h => by simp [argsOf] at h; subst h; trivial
  | x :: xs, vs, h => by
    simp only [argsOf] at h
    split at h
    · rename_i v l hx hl
      simp at h; subst h
      exact ⟨hi.ev hx, args_rep hi hl⟩
    · cases h

/-- What a call that was handed the objects H, with H1 beside, has left. -/
theorem call_post {G : Gh} {M : Mem} {ι : Iota} {a : Act} {w : World} (hi : Inv G M ι st a w) {H H1 : List (Nat × Ob)} (hp : st.H.Perm (H ++ H1)) {M' : Mem} {ι' : Iota} {r : V} {v : Value} {H' : List (Nat × Ob)} {nx' : Nat} {w' : World}
    (hr : RepV M' ι' r v) (c' : InvH M' ι' H' nx' w') (hM : MLe M M') (hι : ILe ι ι') (hnx : st.nx ≤ nx') (hpast : Past (BlkOf ι H) w.heap.size st.nx M ι M' ι') (hkept : Kept (BlkOf ι H) w w') (hown : ∀ p ∈ H', ∀ x b, ι' p.1 = some x → blk x.1 = some b → BlkOf ι H b ∨ w.heap.size ≤ b)
    {d : Option Nat} (hd : fits d st.n = true) : Inv G M' ι' ({ st with H := H' ++ H1, nx := nx' }.set d r) (a.put d v) w' := by
  have hc := hi.core.perm hp
  have hsepA := List.pairwise_append.1 hc.sep
  have ob1 : ∀ p ∈ H1, ∃ x, ι p.1 = some x ∧ RepOb M ι w x p.2 := fun p hp' => hc.ob p (List.mem_append_right _ hp')
  have notX : ∀ p ∈ H1, ∀ x b, ι p.1 = some x → blk x.1 = some b → ¬ BlkOf ι H b := fun p hp' x b hx hb ⟨q, hq', y, hy, hyb⟩ => hsepA.2.2 q hq' p hp' y x b hy hx hyb hb
  have same1 : ∀ p ∈ H1, ∀ x, ι' p.1 = some x → ι p.1 = some x := fun p hp' x hx => by
    obtain ⟨y, hy, _⟩ := ob1 p hp'
    have := hι _ _ hy
    rw [hx] at this; cases this; exact hy
  have lt1 : ∀ p ∈ H1, ∀ x b, ι p.1 = some x → blk x.1 = some b → b < w.heap.size := fun p hp' x b hx hb => by
    obtain ⟨y, hy, ho⟩ := ob1 p hp'
    rw [hx] at hy; cases hy
    exact ho.lt b hb
  have core : InvH M' ι' (H' ++ H1) nx' w' := by
    refine ⟨c'.dom, c'.one, fun p hp' => ?_, ?_, c'.mem, fun p hp' => ?_⟩
    · rcases List.mem_append.1 hp' with hp' | hp'
      · exact c'.ob p hp'
      · obtain ⟨x, hx, ho⟩ := ob1 p hp'
        exact ⟨x, hι _ _ hx, ho.mono hM hι fun b hb => hkept.block b (lt1 p hp' x b hx hb) (notX p hp' x b hx hb)⟩
    · refine List.pairwise_append.2 ⟨c'.sep, hsepA.2.1.imp_of_mem fun {p q} hp' hq' h x y b hx hy => h x y b (same1 p hp' x hx) (same1 q hq' y hy), fun p hp' q hq' x y b hx hy hb hb' => ?_⟩
      have hy' := same1 q hq' y hy
      rcases hown p hp' x b hx hb with hX | hge
      · exact notX q hq' y b hy' hb' hX
      · have := lt1 q hq' y b hy' hb'; omega
    · rcases List.mem_append.1 hp' with hp' | hp'
      · exact c'.free p hp'
      · intro x b hx hb k
        have hx' := same1 p hp' x hx
        cases hM' : M' b k with
        | none => rfl
        | some u =>
          have h0 := hc.free p (List.mem_append_right _ hp') x b hx' hb k
          rcases hpast.seals b k h0 (by rw [hM']; simp) with hX | hge
          · exact absurd hX (notX p hp' x b hx' hb)
          · have := lt1 p hp' x b hx' hb; omega
  have hX : ∀ b, BlkOf ι H b → G.X b ∨ G.w0.heap.size ≤ b := fun b ⟨p, hp', x, hx, hb⟩ => hi.own p (hp.mem_iff.2 (List.mem_append_left _ hp')) x b hx hb
  have ge : ∀ b, w.heap.size ≤ b → G.w0.heap.size ≤ b := fun b hb => Nat.le_trans hi.kept.size hb
  have hk' : Kept G.X G.w0 w' := hi.kept.trans hkept fun i hi' hx => (hX i hx).resolve_right (by omega)
  refine (hi.step (st' := { st with H := H' ++ H1, nx := nx' }) hM hι (fits_spec hd) hr rfl rfl core hk' (fun p hp' x b hx hb => ?_) ⟨⟨fun b k h0 h1 => ?_, fun o x hx ho => ?_⟩, Nat.le_trans hi.past.2 hnx⟩)
  · rcases List.mem_append.1 hp' with hp' | hp'
    · rcases hown p hp' x b hx hb with h | h
      · exact hX b h
      · exact .inr (ge b h)
    · exact hi.own p (hp.mem_iff.2 (List.mem_append_right _ hp')) x b (same1 p hp' x hx) hb
  · cases hm : M b k with
    | none =>
      rcases hpast.seals b k hm h1 with h | h
      · exact hX b h
      · exact .inr (ge b h)
    | some u => exact hi.past.1.seals b k h0 (by rw [hm]; simp)
  · exact hi.past.1.olds o x (hpast.olds o x hx (Nat.lt_of_lt_of_le ho hi.past.2)) ho

/-- A call under a contract, whatever makes it: H are the objects handed over, H1 the others. -/
theorem call_core {G : Gh} {M : Mem} {ι : Iota} {a : Act} {w : World} (hi : Inv G M ι st a w) {f : FuncId} {as : List V1} {vs : List Value} {H H1 : List (Nat × Ob)} {Q : V → List (Nat × Ob) → Nat → Prop} (hk : OkH P f as H st.nx Q) (hp : st.H.Perm (H ++ H1)) (ha : All2 (RepV1 M ι) as vs)
    {d : Option Nat} (hd : fits d st.n = true) {K : Act → World → Prop} (hK : ∀ st' M' ι' a' w', (∃ r H' nx', Q r H' nx' ∧ st' = { st with H := H' ++ H1, nx := nx' }.set d r) → Inv G M' ι' st' a' w' → K a' w') :
    Calls P f vs.toArray w fun e w' => ∃ v, e = .returned v ∧ K (a.put d v) w' := by
  have hcH : InvH M ι H st.nx w := (hi.core.perm hp).sub (List.sublist_append_left ..)
  exact (hk M ι vs w ha hcH).mono fun e w' ⟨v, M', ι', r, H', nx', he, hq, hr, c', hM, hι, hnx, hpast, hkept, hown⟩ => ⟨v, he, hK _ M' ι' _ w' ⟨r, H', nx', hq, rfl⟩ (call_post hi hp hr c' hM hι hnx hpast hkept hown hd)⟩

/-- That a function of the program has a text, so that a call enters it. -/
def Enters (P : Program) (f : FuncId) : Prop := ∀ (args : Array Value) w, (callFunc f args).run P w = .ok (.enter f args) w

/-- A call of a function by its name. -/
theorem Does.call {f : FuncId} {xs : Array Operand} {at' : Array TypeId} {vs : List V1} {H H1 : List (Nat × Ob)} {Q : V → List (Nat × Ob) → Nat → Prop} {d : Option Nat} {ty : TypeId} {pos : String} {aft : Array Edge} {g : Option (Nat × Bool)}
    (he : Enters P f) (ha : argsOf st xs.toList = some vs) (hk : OkH P f vs H st.nx Q) (hp : st.H.Perm (H ++ H1)) (hd : fits d st.n = true := by rfl) :
    Does P ⟨d, .call { callee := .value (.func f), args := xs, argTypes := at' }, ty, pos, aft, g⟩ st fun s => ∃ r H' nx', Q r H' nx' ∧ s = { st with H := H' ++ H1, nx := nx' }.set d r := by
  refine ⟨fun G M ι a w hi K Q' hK => ?_⟩
  have hrun : (execOp a.eval ⟨d, .call { callee := .value (.func f), args := xs, argTypes := at' }, ty, pos, aft, g⟩).run P w = .ok (.enter f (xs.map a.eval)) w := by
    simp [execOp, resolve, Deferred.ofValue, Act.eval, invoke]
    exact he _ _
  simp only [Oper.wp, hrun, Oper.upon]
  have hc := call_core hi hk hp (args_rep hi ha) hd hK
  have hargs : (xs.toList.map a.eval).toArray = xs.map a.eval := by rw [← Array.toList_map, Array.toArray_toList]
  rw [hargs] at hc
  exact hc.mono fun e w' ⟨v, he, hK'⟩ => by subst he; exact hK'

/-- A call of a function value. -/
theorem Does.callV {f : FuncId} {caps : List Nat} {x : Operand} {xs : Array Operand} {at' : Array TypeId} {vs : List V1} {H H1 : List (Nat × Ob)} {Q : V → List (Nat × Ob) → Nat → Prop} {d : Option Nat} {ty : TypeId} {pos : String} {aft : Array Edge} {g : Option (Nat × Bool)}
    (he : Enters P f) (hx : st.ev x = some (.one (.fn f caps))) (ha : argsOf st xs.toList = some vs) (hk : OkH P f (vs ++ caps.map fun o => .one (.ptr o 0 0)) H st.nx Q) (hp : st.H.Perm (H ++ H1)) (hd : fits d st.n = true := by rfl) :
    Does P ⟨d, .call { callee := .value x, args := xs, argTypes := at' }, ty, pos, aft, g⟩ st fun s => ∃ r H' nx', Q r H' nx' ∧ s = { st with H := H' ++ H1, nx := nx' }.set d r := by
  refine ⟨fun G M ι a w hi K Q' hK => ?_⟩
  obtain ⟨us, hu, hcap⟩ := hi.ev hx
  have hrun : (execOp a.eval ⟨d, .call { callee := .value x, args := xs, argTypes := at' }, ty, pos, aft, g⟩).run P w = .ok (.enter f (xs.map a.eval ++ us.toArray)) w := by
    simp [execOp, resolve, Deferred.ofValue, hu, invoke]
    exact he _ _
  simp only [Oper.wp, hrun, Oper.upon]
  have hall : All2 (RepV1 M ι) (vs ++ caps.map fun o => .one (.ptr o 0 0)) (xs.toList.map a.eval ++ us) := by
    refine (args_rep hi ha).append ?_
    have key : ∀ (cs : List Nat) (us : List Value), All2 (fun o v => PtrTo ι o 0 0 v) cs us → All2 (RepV1 M ι) (cs.map fun o => .one (.ptr o 0 0)) us := by
      intro cs
      induction cs with
      | nil => intro us h; cases us with | nil => trivial | cons => exact h.elim
      | cons c cs ih => intro us h; cases us with | nil => exact h.elim | cons u us => exact ⟨h.1, ih us h.2⟩
    exact key _ _ hcap
  have hc := call_core hi hk hp hall hd hK
  have hargs : (xs.toList.map a.eval ++ us).toArray = xs.map a.eval ++ us.toArray := by
    rw [← Array.toList_map, ← List.append_toArray, Array.toArray_toList]
  rw [hargs] at hc
  exact hc.mono fun e w' ⟨v, he, hK'⟩ => by subst he; exact hK'
end
end Go.Fl
