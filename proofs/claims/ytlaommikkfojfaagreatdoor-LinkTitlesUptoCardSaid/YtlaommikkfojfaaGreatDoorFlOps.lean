/- Steps over states: what one operation of the code does to a state. Lemmas alone. -/
import Derived.Test.YtlaommikkfojfaaGreatDoorFlBase
import Derived.TacticsIn
import Derived.Sort.LoopGhostIn
namespace Go.Fl
open Go

def ofVal : Value → V
  | .agg cs => .agg (cs.toList.map fun x => .c (.lit x))
  | .tuple vs => .tup (vs.toList.map fun x => .one (.c (.lit x)))
  | v => .lit v

def St.ev (st : St) : Operand → Option V
  | .tmp t => st.get t
  | .const v => some (ofVal v)
  | .global g => some (.lit (.pointer (some ⟨g, 0, none⟩)))
  | .func f => some (.one (.fn f []))

theorem All2.lits {M : Mem} {ι : Iota} : ∀ (l : List Value), All2 (RepA M ι) (l.map fun x => A.c (.lit x)) l
  | [] => trivial
  | v :: l => ⟨RepC.lit v, All2.lits l⟩
theorem All2.lits1 {M : Mem} {ι : Iota} : ∀ (l : List Value), All2 (RepV1 M ι) (l.map fun x => V1.one (A.c (.lit x))) l
  | [] => trivial
  | v :: l => ⟨RepC.lit v, All2.lits1 l⟩

theorem RepV.ofVal {M : Mem} {ι : Iota} (v : Value) : RepV M ι (ofVal v) v := by
  cases v with
  | agg cs => exact ⟨cs.toList, rfl, All2.lits _⟩
  | tuple cs => exact ⟨cs.toList, rfl, All2.lits1 _⟩
  | _ => exact RepC.lit _

theorem Inv.ev {G : Gh} {M : Mem} {ι : Iota} {st : St} {a : Act} {w : World} (h : Inv G M ι st a w) {x : Operand} {v : V} (hv : st.ev x = some v) : RepV M ι v (a.eval x) := by
  cases x with
  | tmp t =>
    obtain ⟨u, hu, hr⟩ := h.get hv
    have : a.eval (.tmp t) = u := by simp [Act.eval, hu]
    rw [this]; exact hr
  | const c => simp only [St.ev, Option.some.injEq] at hv; subst hv; exact RepV.ofVal c
  | global g => simp only [St.ev, Option.some.injEq] at hv; subst hv; exact RepC.lit _
  | func f => simp only [St.ev, Option.some.injEq] at hv; subst hv; exact ⟨[], rfl, trivial⟩

/-- The fence of a frame: a round's frame, or any other. -/
def rf : Option Nat → Fence
  | none => Fence.wide
  | some l => Fence.wide.inRound l
theorem rf_fn (ro : Option Nat) (f : FuncId) : (rf ro).fn f := by cases ro <;> exact trivial
theorem rf_depth (ro : Option Nat) : (rf ro).depth = none := by cases ro <;> rfl
theorem rf_round (ro : Option Nat) : (rf ro).round = ro := by cases ro <;> rfl
theorem callsIn_rf {ro : Option Nat} {n : Nat} {P : Program} {f : FuncId} {args : Array Value} {w : World} {R : Ending → World → Prop} : CallsIn (rf ro) n P f args w R ↔ Calls P f args w R := by
  cases ro with
  | none => exact callsIn_wide
  | some l => exact Iff.trans (b := CallsIn Fence.wide n P f args w R) Iff.rfl callsIn_wide
def Lift (G : Gh) (Q : Exit → St → Prop) : Exit → Act → World → Prop := fun e a w => ∃ st M ι G', Q e st ∧ Inv G' M ι st a w ∧ GLe G G'
theorem Lift.later {G G' : Gh} (h : GLe G G') {Q : Exit → St → Prop} {e : Exit} {a : Act} {w : World} : Lift G' Q e a w → Lift G Q e a w := fun ⟨s, M, ι, G2, h1, h2, h3⟩ => ⟨s, M, ι, G2, h1, h2, h.trans h3⟩
theorem Lift.mk {G : Gh} {Q : Exit → St → Prop} {e : Exit} {st : St} {M : Mem} {ι : Iota} {a : Act} {w : World} (h : Q e st) (hi : Inv G M ι st a w) : Lift G Q e a w := ⟨st, M, ι, G, h, hi, .refl _⟩
def Tri (P : Program) (c : Code) (st : St) (Q : Exit → St → Prop) (ro : Option Nat := none) : Prop := ∀ G M ι a w, Inv G M ι st a w → c.wpIn (rf ro) 0 P (Lift G Q) a w
def TOps (P : Program) (ops : Array Oper) (l : List Oper) (st : St) (Q : Exit → St → Prop) (ro : Option Nat := none) : Prop := ∀ G M ι a w, Inv G M ι st a w → wpListIn (rf ro) 0 P ops (Lift G Q) l a w
def notDefer : Op → Bool
  | .defer _ => false
  | _ => true
/-- An operation that goes on whatever is asked beside it, in any frame. -/
theorem wpIn_of_wp {ro : Option Nat} {P : Program} {o : Oper} {a : Act} {w : World} {K : Act → World → Prop} {Q : Exit → Act → World → Prop} (hnd : notDefer o.op = true) (h : o.wp P a w K fun _ _ _ => False) : o.wpIn (rf ro) 0 P a w K Q := by
  have hs : o.semAt (rf ro).round a.eval = execOp a.eval o := by
    unfold Oper.semAt
    split
    · rename_i c h1 hc; rw [hc] at hnd; cases hnd
    · rfl
  refine ⟨fun f _ => rf_fn ro f, ?_⟩
  rw [hs]
  unfold Oper.wp at h
  have hd : (rf ro).depth.isSome = true → 1 ≤ 0 := fun h => by rw [rf_depth] at h; cases h
  generalize (execOp a.eval o).run P w = r at h
  match r, h with
  | .ok (.value v) w', h => exact h
  | .ok .skip w', h => exact h
  | .ok (.defer d) w', h => exact h
  | .ok (.enter f args) w', h =>
    refine ⟨hd, callsIn_rf.2 ?_⟩
    refine Calls.mono h fun e w' he => ?_
    cases e with
    | returned v => exact he
    | panicked c => exact he.elim
    | outgrown => obtain ⟨_, _, h⟩ := (he : LetsOut fun _ _ _ => False); exact h.elim
  | .ok (.row row args) w', h =>
    refine ⟨hd, ?_⟩
    have key : RowsIn Fence.wide (0 - 1) P row args w' fun v w'' => K (a.put o.dst v) w'' := fun c cs _ => let ⟨v, w', r, s⟩ := h c cs; ⟨v, w', r, stepsIn_wide.2 s⟩
    cases ro with
    | none => exact key
    | some l => exact key

/-- What an operation, carried out, does to a state: one of the states R. -/
structure Does (P : Program) (o : Oper) (st : St) (R : St → Prop) : Prop where
  go : ∀ G M ι a w, Inv G M ι st a w → ∀ (K : Act → World → Prop) (Q : Exit → Act → World → Prop), (∀ st' M' ι' a' w', R st' → Inv G M' ι' st' a' w' → K a' w') → o.wp P a w K Q

/-- A world that holds, as another does, the sealed memory and these objects. -/
def Same (M : Mem) (ι : Iota) (H : List (Nat × Ob)) (w w' : World) : Prop :=
  (∀ b k u, M b k = some u → w'.cell? ⟨b, k, none⟩ = some u) ∧ ∀ p ∈ H, ∀ x b, ι p.1 = some x → blk x.1 = some b → w'.heap[b]? = w.heap[b]?
theorem InvH.same {M : Mem} {ι : Iota} {H : List (Nat × Ob)} {nx : Nat} {w : World} (h : InvH M ι H nx w) : Same M ι H w w := ⟨fun b k u hu => (h.mem b k u hu).1, fun _ _ _ _ _ _ => rfl⟩
/-- An operation that leaves the world alone and yields one value, in each world that is the same in what it reads. -/
def Flo (P : Program) (o : Oper) (st : St) (v : V) : Prop :=
  ∀ G M ι a w, Inv G M ι st a w → ∃ u, (∀ w', Same M ι st.H w w' → (execOp a.eval o).run P w' = .ok (.value u) w') ∧ RepV M ι v u

/-- What a state shows. -/
def Fact (st : St) (p : Prop) : Prop := ∀ G M ι a w, Inv G M ι st a w → p
section control
variable {P : Program} {st st' : St} {Q Q' : Exit → St → Prop} {c d : Code} {ro : Option Nat}

def Then (next : St → Prop) (Q : Exit → St → Prop) : Exit → St → Prop
  | .normal, st => next st
  | e, st => Q e st
def InBlock (id : Nat) (Q : Exit → St → Prop) : Exit → St → Prop
  | .exit id', st => if id' = id then Q .normal st else Q (.exit id') st
  | e, st => Q e st

theorem Tri.mono (h : Tri P c st Q ro) (hq : ∀ e s, Q e s → Q' e s) : Tri P c st Q' ro :=
  fun G M ι a w hi => wpIn_mono (h G M ι a w hi) fun _ _ _ ⟨s, M', ι', G', h1, h2⟩ => ⟨s, M', ι', G', hq _ _ h1, h2⟩
theorem Tri.skip (h : Q .normal st) : Tri P .skip st Q ro := fun _ _ _ _ _ hi => wpIn_skip (.mk h hi)
theorem Tri.ret (h : Q .ret st) : Tri P .ret st Q ro := fun _ _ _ _ _ hi => wpIn_ret (.mk h hi)
theorem Tri.exit {id : Nat} (h : Q (.exit id) st) : Tri P (.exit id) st Q ro := fun _ _ _ _ _ hi => wpIn_exit (.mk h hi)
theorem Tri.seq (h : Tri P c st (Then (fun s => Tri P d s Q ro) Q) ro) : Tri P (.seq c d) st Q ro := by
  intro G M ι a w hi
  refine wpIn_seq (wpIn_mono (h G M ι a w hi) fun e a' w' ⟨s, M', ι', G', h1, h2, h3⟩ => ?_)
  cases e with
  | normal => exact wpIn_mono (h1 G' M' ι' a' w' h2) fun _ _ _ => Lift.later h3
  | _ => exact ⟨s, M', ι', G', h1, h2, h3⟩
theorem Tri.block {id : Nat} (h : Tri P c st (InBlock id Q) ro) : Tri P (.block id c) st Q ro := by
  intro G M ι a w hi
  refine wpIn_block (wpIn_mono (h G M ι a w hi) fun e a' w' ⟨s, M', ι', G', h1, h2⟩ => ?_)
  cases e with
  | exit id' =>
    by_cases he : id' = id
    · simp only [Exit.inBlock, InBlock, he, if_true] at h1 ⊢; exact ⟨s, M', ι', G', h1, h2⟩
    · simp only [Exit.inBlock, InBlock, he, if_false] at h1 ⊢; exact ⟨s, M', ι', G', h1, h2⟩
  | _ => exact ⟨s, M', ι', G', h1, h2⟩
theorem Tri.cond {x : Operand} {b : Bool} (hx : st.ev x = some (.lit (.bool b))) (h1 : b = true → Tri P c st Q ro) (h2 : b = false → Tri P d st Q ro) : Tri P (.cond x c d) st Q ro := by
  intro G M ι a w hi
  have := hi.ev hx
  have he : a.eval x = .bool b := by generalize a.eval x = u at this; cases this; rfl
  exact wpIn_cond_split he (fun hb => h1 hb G M ι a w hi) (fun hb => h2 hb G M ι a w hi)
theorem Tri.condT {x : Operand} (hx : st.ev x = some (.lit (.bool true))) (h1 : Tri P c st Q ro) : Tri P (.cond x c d) st Q ro := Tri.cond hx (fun _ => h1) (fun h => by cases h)
theorem Tri.condF {x : Operand} (hx : st.ev x = some (.lit (.bool false))) (h1 : Tri P d st Q ro) : Tri P (.cond x c d) st Q ro := Tri.cond hx (fun h => by cases h) (fun _ => h1)

/-- A weaker state. -/
def Weak (st st' : St) : Prop := ∀ G M ι a w, Inv G M ι st a w → ∃ M' ι', Inv G M' ι' st' a w
theorem Weak.refl (st : St) : Weak st st := fun _ M ι _ _ h => ⟨M, ι, h⟩
theorem Weak.trans {s1 s2 s3 : St} (h : Weak s1 s2) (k : Weak s2 s3) : Weak s1 s3 := fun G M ι a w hi => let ⟨M', ι', h'⟩ := h G M ι a w hi; k G M' ι' a w h'
theorem Tri.weak (hw : Weak st st') (h : Tri P c st' Q ro) : Tri P c st Q ro := fun G M ι a w hi => let ⟨M', ι', h'⟩ := hw G M ι a w hi; h G M' ι' a w h'
theorem TOps.weak {ops : Array Oper} {l : List Oper} (hw : Weak st st') (h : TOps P ops l st' Q ro) : TOps P ops l st Q ro := fun G M ι a w hi => let ⟨M', ι', h'⟩ := hw G M ι a w hi; h G M' ι' a w h'

/-- A loop: what holds at each round's head is one of the states I x, x of the kind p; mu goes down. -/
theorem Tri.loop {α : Type} (p : α → Prop) (I : α → St) (mu : α → Nat) (x0 : α) (hx : p x0) (h0 : Weak st (I x0))
    (round : ∀ x, p x → Tri P c (I x) (Then (fun s => ∃ x', p x' ∧ mu x' < mu x ∧ Weak s (I x')) Q) ro) : Tri P (.loop c) st Q ro := by
  intro G M ι a w hi
  obtain ⟨M0, ι0, hi0⟩ := h0 G M ι a w hi
  refine wpIn_loop_ghost (fun n a w => ∃ x M ι G', p x ∧ mu x = n ∧ Inv G' M ι (I x) a w ∧ GLe G G') (mu x0) ⟨x0, M0, ι0, G, hx, rfl, hi0, .refl _⟩ ?_
  rintro n a w ⟨x, M, ι, G1, hp, rfl, hx, hg⟩
  refine wpIn_mono (round x hp G1 M ι a w hx) fun e a' w' ⟨s, M', ι', G', h1, h2, h3⟩ => ?_
  cases e with
  | normal =>
    obtain ⟨x', hp', hlt, hw⟩ := h1
    obtain ⟨M2, ι2, h4⟩ := hw G' M' ι' a' w' h2
    exact ⟨_, hlt, x', M2, ι2, G', hp', rfl, h4, hg.trans h3⟩
  | _ => exact ⟨s, M', ι', G', h1, h2, hg.trans h3⟩

theorem TOps.nil {ops : Array Oper} (h : Q .normal st) : TOps P ops [] st Q ro := fun _ _ _ _ _ hi => wpListIn_nil (.mk h hi)
theorem Tri.region {id : Nat} {l : List Oper} (h : TOps P l.toArray l st Q ro) : Tri P (.region id l.toArray false) st Q ro := fun G M ι a w hi => wpIn_region_lit (h G M ι a w hi)

theorem TOps.step {ops : Array Oper} {o : Oper} {l : List Oper} {R : St → Prop} (hd : Does P o st R) (h : ∀ s, R s → TOps P ops l s Q ro) (hnd : notDefer o.op = true) (hg : o.guard = none := by rfl) : TOps P ops (o :: l) st Q ro := by
  intro G M ι a w hi
  refine wpListIn_plain hg fun K hK => ?_
  exact wpIn_of_wp hnd (hd.go G M ι a w hi K _ fun st' M' ι' a' w' hr hi' => hK _ _ (h st' hr G M' ι' a' w' hi'))

theorem wanted_of {ops : Array Oper} {a : Act} {o : Oper} {G : Gh} {M : Mem} {ι : Iota} {w : World} (hi : Inv G M ι st a w) {j : Nat} {want b : Bool} {t : Nat} (hg : o.guard = some (j, want)) (ht : (ops[j]?).bind (·.dst) = some t)
    (hx : st.get t = some (.lit (.bool b))) : Region.wanted o (yielded ops a.tmps) = (b == want) := by
  obtain ⟨u, hu, hr⟩ := hi.get hx
  cases hr
  simp only [Region.wanted, hg, yielded, ht, Option.bind_some, hu]
  cases b <;> cases want <;> rfl

/-- A guarded operation that is carried out. -/
theorem TOps.gT {ops : Array Oper} {o : Oper} {l : List Oper} {R : St → Prop} (j : Nat) (b : Bool) (t : Nat) (hg : o.guard = some (j, b)) (ht : (ops[j]?).bind (·.dst) = some t) (hx : st.get t = some (.lit (.bool b)))
    (hd : Does P o st R) (h : ∀ s, R s → TOps P ops l s Q ro) (hnd : notDefer o.op = true) : TOps P ops (o :: l) st Q ro := by
  intro G M ι a w hi
  refine wpListIn_step fun K hK => ?_
  rw [wanted_of hi hg ht hx]
  simp only [BEq.rfl, if_true]
  refine wpIn_of_wp hnd ?_
  exact hd.go G M ι a w hi K _ fun st' M' ι' a' w' hr hi' => hK _ _ (h st' hr G M' ι' a' w' hi')
/-- A guarded operation that is passed over. -/
theorem TOps.gF {ops : Array Oper} {o : Oper} {l : List Oper} (j : Nat) (b : Bool) (t : Nat) (hg : o.guard = some (j, !b)) (ht : (ops[j]?).bind (·.dst) = some t) (hx : st.get t = some (.lit (.bool b)))
    (h : TOps P ops l (st.unset o.dst) Q ro) : TOps P ops (o :: l) st Q ro := by
  intro G M ι a w hi
  refine wpListIn_step fun K hK => ?_
  rw [wanted_of hi hg ht hx]
  have : (b == !b) = false := by cases b <;> rfl
  rw [this]
  simp only [Bool.false_eq_true, if_false]
  exact ⟨fun f _ => rf_fn ro f, hK _ _ (h G M ι _ w (hi.unput _ _))⟩
theorem TOps.fact {ops : Array Oper} {l : List Oper} {p : Prop} (hp : Fact st p) (h : p → TOps P ops l st Q ro) : TOps P ops l st Q ro := fun G M ι a w hi => h (hp G M ι a w hi) G M ι a w hi
theorem Tri.fact {p : Prop} (hp : Fact st p) (h : p → Tri P c st Q ro) : Tri P c st Q ro := fun G M ι a w hi => h (hp G M ι a w hi) G M ι a w hi
/-- What is known of a bool is parted. -/
theorem TOps.part {ops : Array Oper} {l : List Oper} {b : Bool} (h : ∀ c, b = c → TOps P ops l st Q ro) : TOps P ops l st Q ro := h b rfl
end control

/-- A destination that lies in the frame. -/
def fits (d : Option Nat) (n : Nat) : Bool := d.all (· < n)

end Go.Fl
