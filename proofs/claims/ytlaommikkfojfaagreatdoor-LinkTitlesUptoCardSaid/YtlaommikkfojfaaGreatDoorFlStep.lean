/- Steps over states: one lemma a kind of operation. Lemmas alone. -/
import Derived.Test.YtlaommikkfojfaaGreatDoorFlOps
import Derived.IntWalk
namespace Go.Fl
open Go
section
variable {P : Program} {st : St} {d : Option Nat} {ty : TypeId} {pos : String} {aft : Array Edge} {g : Option (Nat × Bool)}

theorem fits_spec {d : Option Nat} {n : Nat} (h : fits d n = true) : ∀ t, d = some t → t < n := by
  intro t ht; subst ht; simpa [fits] using h

theorem Flo.does {o : Oper} {v : V} (h : Flo P o st v) (hd : fits o.dst st.n = true) : Does P o st (· = st.set o.dst v) := by
  refine ⟨fun G M ι a w hi K Q hK => ?_⟩
  obtain ⟨u, h1, h2⟩ := h G M ι a w hi
  simp only [Oper.wp, h1 w hi.core.same, Oper.upon]
  exact hK _ M ι _ _ rfl (hi.put (fits_spec hd) h2)

theorem Flo.move {x : Operand} {v : V} (hx : st.ev x = some v) : Flo P ⟨d, .move x, ty, pos, aft, g⟩ st v :=
  fun _ _ _ a _ hi => ⟨a.eval x, fun _ _ => by simp [execOp], hi.ev hx⟩
theorem Does.move {x : Operand} {v : V} (hx : st.ev x = some v) (hd : fits d st.n = true := by rfl) :
    Does P ⟨d, .move x, ty, pos, aft, g⟩ st (· = st.set d v) := (Flo.move hx).does hd
theorem Flo.assign {x : Operand} {v : V} (hx : st.ev x = some v) : Flo P ⟨d, .assign x, ty, pos, aft, g⟩ st v :=
  fun _ _ _ a _ hi => ⟨a.eval x, fun _ _ => by simp [execOp], hi.ev hx⟩
theorem Does.assign {x : Operand} {v : V} (hx : st.ev x = some v) (hd : fits d st.n = true := by rfl) :
    Does P ⟨d, .assign x, ty, pos, aft, g⟩ st (· = st.set d v) := (Flo.assign hx).does hd
theorem ev_lit {G : Gh} {M : Mem} {ι : Iota} {a : Act} {w : World} (hi : Inv G M ι st a w) {x : Operand} {u : Value} (hx : st.ev x = some (.lit u)) : a.eval x = u := by
  have := hi.ev hx; generalize a.eval x = y at this; cases this; rfl

theorem Flo.pick {c x y : Operand} {b : Bool} {v1 v2 : V} (hc : st.ev c = some (.lit (.bool b))) (hx : st.ev x = some v1 ∨ b = false) (hy : st.ev y = some v2 ∨ b = true) : Flo P ⟨d, .pick c x y, ty, pos, aft, g⟩ st (if b then v1 else v2) :=
  fun _ _ _ a _ hi => by
    have he := ev_lit hi hc
    refine ⟨if b then a.eval x else a.eval y, fun _ _ => by simp [execOp, he, asBool], ?_⟩
    cases b with
    | true => exact hi.ev (hx.resolve_right (by simp))
    | false => exact hi.ev (hy.resolve_right (by simp))
theorem Does.pick {c x y : Operand} {b : Bool} {v1 v2 : V} (hc : st.ev c = some (.lit (.bool b))) (hx : st.ev x = some v1 ∨ b = false) (hy : st.ev y = some v2 ∨ b = true) (hd : fits d st.n = true := by rfl) :
    Does P ⟨d, .pick c x y, ty, pos, aft, g⟩ st (· = st.set d (if b then v1 else v2)) := (Flo.pick hc hx hy).does hd
theorem Flo.pickT {c x y : Operand} {v : V} (hc : st.ev c = some (.lit (.bool true))) (hx : st.ev x = some v) : Flo P ⟨d, .pick c x y, ty, pos, aft, g⟩ st v :=
  by simpa using Flo.pick (v1 := v) (v2 := v) (y := y) hc (.inl hx) (.inr rfl)
theorem Does.pickT {c x y : Operand} {v : V} (hc : st.ev c = some (.lit (.bool true))) (hx : st.ev x = some v) (hd : fits d st.n = true := by rfl) :
    Does P ⟨d, .pick c x y, ty, pos, aft, g⟩ st (· = st.set d v) := (Flo.pickT hc hx).does hd
theorem Flo.pickF {c x y : Operand} {v : V} (hc : st.ev c = some (.lit (.bool false))) (hy : st.ev y = some v) : Flo P ⟨d, .pick c x y, ty, pos, aft, g⟩ st v :=
  by simpa using Flo.pick (v1 := v) (v2 := v) (x := x) hc (.inr rfl) (.inl hy)
theorem Does.pickF {c x y : Operand} {v : V} (hc : st.ev c = some (.lit (.bool false))) (hy : st.ev y = some v) (hd : fits d st.n = true := by rfl) :
    Does P ⟨d, .pick c x y, ty, pos, aft, g⟩ st (· = st.set d v) := (Flo.pickF hc hy).does hd
/-- '==' asks nothing of the values of these kinds. -/
def plainB : Value → Bool
  | .agg _ | .nilIface => false
  | _ => true
theorem eqGuard_plain (P : Program) (op : BinOp) (t : TypeId) (x y : Operand) {a b : Value} (w : World) (h : plainB a = true) : (eqGuard op t x y a b).run P w = .ok () w := by
  cases op <;> first | rfl | (cases a <;> first | (simp [plainB] at h; done) | rfl | (cases b <;> rfl))

/-- A reckoning on two values that are known. -/
theorem Flo.bin {op : BinOp} {t yt : TypeId} {x y : Operand} {a b r : Value} (hx : st.ev x = some (.lit a)) (hy : st.ev y = some (.lit b)) (hp : plainB a = true) (hr : ∀ w, (binOp op t a b).run P w = .ok r w) : Flo P ⟨d, .binOp op t x y yt, ty, pos, aft, g⟩ st (.lit r) :=
  fun _ _ _ ac w hi => by
    refine ⟨r, fun w _ => ?_, RepC.lit r⟩
    simp [execOp, ev_lit hi hx, ev_lit hi hy, eqGuard_plain P op t x y w hp, hr]
theorem Does.bin {op : BinOp} {t yt : TypeId} {x y : Operand} {a b r : Value} (hx : st.ev x = some (.lit a)) (hy : st.ev y = some (.lit b)) (hp : plainB a = true) (hr : ∀ w, (binOp op t a b).run P w = .ok r w) (hd : fits d st.n = true) :
    Does P ⟨d, .binOp op t x y yt, ty, pos, aft, g⟩ st (· = st.set d (.lit r)) := (Flo.bin hx hy hp hr).does hd
theorem Flo.addI {t yt : TypeId} {x y : Operand} {a b : Int} (hx : st.ev x = some (.lit (.int .i64 a))) (hy : st.ev y = some (.lit (.int .i64 b))) (h1 : -9223372036854775808 ≤ a + b) (h2 : a + b ≤ 9223372036854775807) : Flo P ⟨d, .binOp .add t x y yt, ty, pos, aft, g⟩ st (.lit (.int .i64 (a + b))) :=
  Flo.bin hx hy rfl (fun w => by simp [binOp, Op.intArith, IntWalk.i64_in (a + b) ⟨h1, h2⟩])
theorem Does.addI {t yt : TypeId} {x y : Operand} {a b : Int} (hx : st.ev x = some (.lit (.int .i64 a))) (hy : st.ev y = some (.lit (.int .i64 b))) (h1 : -9223372036854775808 ≤ a + b) (h2 : a + b ≤ 9223372036854775807) (hd : fits d st.n = true := by rfl) :
    Does P ⟨d, .binOp .add t x y yt, ty, pos, aft, g⟩ st (· = st.set d (.lit (.int .i64 (a + b)))) := (Flo.addI hx hy h1 h2).does hd
theorem Flo.subI {t yt : TypeId} {x y : Operand} {a b : Int} (hx : st.ev x = some (.lit (.int .i64 a))) (hy : st.ev y = some (.lit (.int .i64 b))) (h1 : -9223372036854775808 ≤ a - b) (h2 : a - b ≤ 9223372036854775807) : Flo P ⟨d, .binOp .sub t x y yt, ty, pos, aft, g⟩ st (.lit (.int .i64 (a - b))) :=
  Flo.bin hx hy rfl (fun w => by simp [binOp, Op.intArith, IntWalk.i64_in (a - b) ⟨h1, h2⟩])
theorem Does.subI {t yt : TypeId} {x y : Operand} {a b : Int} (hx : st.ev x = some (.lit (.int .i64 a))) (hy : st.ev y = some (.lit (.int .i64 b))) (h1 : -9223372036854775808 ≤ a - b) (h2 : a - b ≤ 9223372036854775807) (hd : fits d st.n = true := by rfl) :
    Does P ⟨d, .binOp .sub t x y yt, ty, pos, aft, g⟩ st (· = st.set d (.lit (.int .i64 (a - b)))) := (Flo.subI hx hy h1 h2).does hd
theorem Flo.mulI {t yt : TypeId} {x y : Operand} {a b : Int} (hx : st.ev x = some (.lit (.int .i64 a))) (hy : st.ev y = some (.lit (.int .i64 b))) (h1 : -9223372036854775808 ≤ a * b) (h2 : a * b ≤ 9223372036854775807) : Flo P ⟨d, .binOp .mul t x y yt, ty, pos, aft, g⟩ st (.lit (.int .i64 (a * b))) :=
  Flo.bin hx hy rfl (fun w => by simp [binOp, Op.intArith, IntWalk.i64_in (a * b) ⟨h1, h2⟩])
theorem Does.mulI {t yt : TypeId} {x y : Operand} {a b : Int} (hx : st.ev x = some (.lit (.int .i64 a))) (hy : st.ev y = some (.lit (.int .i64 b))) (h1 : -9223372036854775808 ≤ a * b) (h2 : a * b ≤ 9223372036854775807) (hd : fits d st.n = true := by rfl) :
    Does P ⟨d, .binOp .mul t x y yt, ty, pos, aft, g⟩ st (· = st.set d (.lit (.int .i64 (a * b)))) := (Flo.mulI hx hy h1 h2).does hd
/-- The sum of bytes and of other kinds, wrapped. -/
theorem Flo.addK {k : IntKind} {t yt : TypeId} {x y : Operand} {a b : Int} (hx : st.ev x = some (.lit (.int k a))) (hy : st.ev y = some (.lit (.int k b))) : Flo P ⟨d, .binOp .add t x y yt, ty, pos, aft, g⟩ st (.lit (.int k (k.wrap (a + b)))) :=
  Flo.bin hx hy rfl (fun w => by simp [binOp, Op.intArith])
theorem Does.addK {k : IntKind} {t yt : TypeId} {x y : Operand} {a b : Int} (hx : st.ev x = some (.lit (.int k a))) (hy : st.ev y = some (.lit (.int k b))) (hd : fits d st.n = true := by rfl) :
    Does P ⟨d, .binOp .add t x y yt, ty, pos, aft, g⟩ st (· = st.set d (.lit (.int k (k.wrap (a + b))))) := (Flo.addK hx hy).does hd
theorem Flo.subK {k : IntKind} {t yt : TypeId} {x y : Operand} {a b : Int} (hx : st.ev x = some (.lit (.int k a))) (hy : st.ev y = some (.lit (.int k b))) : Flo P ⟨d, .binOp .sub t x y yt, ty, pos, aft, g⟩ st (.lit (.int k (k.wrap (a - b)))) :=
  Flo.bin hx hy rfl (fun w => by simp [binOp, Op.intArith])
theorem Does.subK {k : IntKind} {t yt : TypeId} {x y : Operand} {a b : Int} (hx : st.ev x = some (.lit (.int k a))) (hy : st.ev y = some (.lit (.int k b))) (hd : fits d st.n = true := by rfl) :
    Does P ⟨d, .binOp .sub t x y yt, ty, pos, aft, g⟩ st (· = st.set d (.lit (.int k (k.wrap (a - b))))) := (Flo.subK hx hy).does hd
theorem Flo.mulK {k : IntKind} {t yt : TypeId} {x y : Operand} {a b : Int} (hx : st.ev x = some (.lit (.int k a))) (hy : st.ev y = some (.lit (.int k b))) : Flo P ⟨d, .binOp .mul t x y yt, ty, pos, aft, g⟩ st (.lit (.int k (k.wrap (a * b)))) :=
  Flo.bin hx hy rfl (fun w => by simp [binOp, Op.intArith])
theorem Does.mulK {k : IntKind} {t yt : TypeId} {x y : Operand} {a b : Int} (hx : st.ev x = some (.lit (.int k a))) (hy : st.ev y = some (.lit (.int k b))) (hd : fits d st.n = true := by rfl) :
    Does P ⟨d, .binOp .mul t x y yt, ty, pos, aft, g⟩ st (· = st.set d (.lit (.int k (k.wrap (a * b))))) := (Flo.mulK hx hy).does hd
theorem Flo.quoI {t yt : TypeId} {x y : Operand} {a b : Int} (hx : st.ev x = some (.lit (.int .i64 a))) (hy : st.ev y = some (.lit (.int .i64 b))) (hb : b ≠ 0) (h1 : -9223372036854775808 ≤ a.tdiv b) (h2 : a.tdiv b ≤ 9223372036854775807) : Flo P ⟨d, .binOp .quo t x y yt, ty, pos, aft, g⟩ st (.lit (.int .i64 (a.tdiv b))) :=
  Flo.bin hx hy rfl (fun w => by simp [binOp, Op.intDiv, hb, IntWalk.i64_in (a.tdiv b) ⟨h1, h2⟩])
theorem Does.quoI {t yt : TypeId} {x y : Operand} {a b : Int} (hx : st.ev x = some (.lit (.int .i64 a))) (hy : st.ev y = some (.lit (.int .i64 b))) (hb : b ≠ 0) (h1 : -9223372036854775808 ≤ a.tdiv b) (h2 : a.tdiv b ≤ 9223372036854775807) (hd : fits d st.n = true := by rfl) :
    Does P ⟨d, .binOp .quo t x y yt, ty, pos, aft, g⟩ st (· = st.set d (.lit (.int .i64 (a.tdiv b)))) := (Flo.quoI hx hy hb h1 h2).does hd
theorem Flo.remI {k : IntKind} {t yt : TypeId} {x y : Operand} {a b : Int} (hx : st.ev x = some (.lit (.int k a))) (hy : st.ev y = some (.lit (.int k b))) (hb : b ≠ 0) : Flo P ⟨d, .binOp .rem t x y yt, ty, pos, aft, g⟩ st (.lit (.int k (a.tmod b))) :=
  Flo.bin hx hy rfl (fun w => by simp [binOp, Op.intDiv, hb])
theorem Does.remI {k : IntKind} {t yt : TypeId} {x y : Operand} {a b : Int} (hx : st.ev x = some (.lit (.int k a))) (hy : st.ev y = some (.lit (.int k b))) (hb : b ≠ 0) (hd : fits d st.n = true := by rfl) :
    Does P ⟨d, .binOp .rem t x y yt, ty, pos, aft, g⟩ st (· = st.set d (.lit (.int k (a.tmod b)))) := (Flo.remI hx hy hb).does hd
theorem Flo.eqlI {k : IntKind} {t yt : TypeId} {x y : Operand} {a b : Int} (hx : st.ev x = some (.lit (.int k a))) (hy : st.ev y = some (.lit (.int k b))) : Flo P ⟨d, .binOp .eql t x y yt, ty, pos, aft, g⟩ st (.lit (.bool (decide (a = b)))) :=
  Flo.bin hx hy rfl (fun w => by simp [binOp, Op.intCmp]; rfl)
theorem Does.eqlI {k : IntKind} {t yt : TypeId} {x y : Operand} {a b : Int} (hx : st.ev x = some (.lit (.int k a))) (hy : st.ev y = some (.lit (.int k b))) (hd : fits d st.n = true := by rfl) :
    Does P ⟨d, .binOp .eql t x y yt, ty, pos, aft, g⟩ st (· = st.set d (.lit (.bool (decide (a = b))))) := (Flo.eqlI hx hy).does hd
theorem Flo.neqI {k : IntKind} {t yt : TypeId} {x y : Operand} {a b : Int} (hx : st.ev x = some (.lit (.int k a))) (hy : st.ev y = some (.lit (.int k b))) : Flo P ⟨d, .binOp .neq t x y yt, ty, pos, aft, g⟩ st (.lit (.bool (decide (a ≠ b)))) :=
  Flo.bin hx hy rfl (fun w => by simp [binOp, Op.intCmp]; by_cases h : a = b <;> simp [h, bne])
theorem Does.neqI {k : IntKind} {t yt : TypeId} {x y : Operand} {a b : Int} (hx : st.ev x = some (.lit (.int k a))) (hy : st.ev y = some (.lit (.int k b))) (hd : fits d st.n = true := by rfl) :
    Does P ⟨d, .binOp .neq t x y yt, ty, pos, aft, g⟩ st (· = st.set d (.lit (.bool (decide (a ≠ b))))) := (Flo.neqI hx hy).does hd
theorem Flo.lssI {k : IntKind} {t yt : TypeId} {x y : Operand} {a b : Int} (hx : st.ev x = some (.lit (.int k a))) (hy : st.ev y = some (.lit (.int k b))) : Flo P ⟨d, .binOp .lss t x y yt, ty, pos, aft, g⟩ st (.lit (.bool (decide (a < b)))) :=
  Flo.bin hx hy rfl (fun w => by simp [binOp, Op.intCmp])
theorem Does.lssI {k : IntKind} {t yt : TypeId} {x y : Operand} {a b : Int} (hx : st.ev x = some (.lit (.int k a))) (hy : st.ev y = some (.lit (.int k b))) (hd : fits d st.n = true := by rfl) :
    Does P ⟨d, .binOp .lss t x y yt, ty, pos, aft, g⟩ st (· = st.set d (.lit (.bool (decide (a < b))))) := (Flo.lssI hx hy).does hd
theorem Flo.leqI {k : IntKind} {t yt : TypeId} {x y : Operand} {a b : Int} (hx : st.ev x = some (.lit (.int k a))) (hy : st.ev y = some (.lit (.int k b))) : Flo P ⟨d, .binOp .leq t x y yt, ty, pos, aft, g⟩ st (.lit (.bool (decide (a ≤ b)))) :=
  Flo.bin hx hy rfl (fun w => by simp [binOp, Op.intCmp])
theorem Does.leqI {k : IntKind} {t yt : TypeId} {x y : Operand} {a b : Int} (hx : st.ev x = some (.lit (.int k a))) (hy : st.ev y = some (.lit (.int k b))) (hd : fits d st.n = true := by rfl) :
    Does P ⟨d, .binOp .leq t x y yt, ty, pos, aft, g⟩ st (· = st.set d (.lit (.bool (decide (a ≤ b))))) := (Flo.leqI hx hy).does hd
theorem Flo.gtrI {k : IntKind} {t yt : TypeId} {x y : Operand} {a b : Int} (hx : st.ev x = some (.lit (.int k a))) (hy : st.ev y = some (.lit (.int k b))) : Flo P ⟨d, .binOp .gtr t x y yt, ty, pos, aft, g⟩ st (.lit (.bool (decide (b < a)))) :=
  Flo.bin hx hy rfl (fun w => by simp [binOp, Op.intCmp])
theorem Does.gtrI {k : IntKind} {t yt : TypeId} {x y : Operand} {a b : Int} (hx : st.ev x = some (.lit (.int k a))) (hy : st.ev y = some (.lit (.int k b))) (hd : fits d st.n = true := by rfl) :
    Does P ⟨d, .binOp .gtr t x y yt, ty, pos, aft, g⟩ st (· = st.set d (.lit (.bool (decide (b < a))))) := (Flo.gtrI hx hy).does hd
theorem Flo.geqI {k : IntKind} {t yt : TypeId} {x y : Operand} {a b : Int} (hx : st.ev x = some (.lit (.int k a))) (hy : st.ev y = some (.lit (.int k b))) : Flo P ⟨d, .binOp .geq t x y yt, ty, pos, aft, g⟩ st (.lit (.bool (decide (b ≤ a)))) :=
  Flo.bin hx hy rfl (fun w => by simp [binOp, Op.intCmp])
theorem Does.geqI {k : IntKind} {t yt : TypeId} {x y : Operand} {a b : Int} (hx : st.ev x = some (.lit (.int k a))) (hy : st.ev y = some (.lit (.int k b))) (hd : fits d st.n = true := by rfl) :
    Does P ⟨d, .binOp .geq t x y yt, ty, pos, aft, g⟩ st (· = st.set d (.lit (.bool (decide (b ≤ a))))) := (Flo.geqI hx hy).does hd
theorem run_equalB {t : TypeId} (ht : P.underlying t = some .bool) (a b : Bool) (w : World) : (Op.equal t (.bool a) (.bool b)).run P w = .ok (a == b) w := by
  have h : ∀ d, (Op.equalIn (d + 1) t (.bool a) (.bool b)).run P w = .ok (a == b) w := fun d => by unfold Op.equalIn; simp [run_underlying ht]
  exact h 9999
theorem Flo.eqlB {t yt : TypeId} {x y : Operand} {a b : Bool} (ht : P.underlying t = some .bool) (hx : st.ev x = some (.lit (.bool a))) (hy : st.ev y = some (.lit (.bool b))) : Flo P ⟨d, .binOp .eql t x y yt, ty, pos, aft, g⟩ st (.lit (.bool (decide (a = b)))) :=
  Flo.bin hx hy rfl (fun w => by cases a <;> cases b <;> simp [binOp, run_equalB ht])
theorem Flo.neqB {t yt : TypeId} {x y : Operand} {a b : Bool} (ht : P.underlying t = some .bool) (hx : st.ev x = some (.lit (.bool a))) (hy : st.ev y = some (.lit (.bool b))) : Flo P ⟨d, .binOp .neq t x y yt, ty, pos, aft, g⟩ st (.lit (.bool (decide (a ≠ b)))) :=
  Flo.bin hx hy rfl (fun w => by cases a <;> cases b <;> simp [binOp, run_equalB ht])

/-- A string out of its bytes. -/
abbrev str (l : List UInt8) : Value := .string ⟨l.toArray⟩
theorem toList_mk (l : List UInt8) : (ByteArray.mk l.toArray).toList = l := by simp [ByteArray.toList_eq]
theorem beq_dec {α : Type} [DecidableEq α] [BEq α] [LawfulBEq α] (a b : α) : (a == b) = decide (a = b) := by by_cases h : a = b <;> simp [h]
theorem Flo.eqlS {t yt : TypeId} {x y : Operand} {a b : List UInt8} (hx : st.ev x = some (.lit (str a))) (hy : st.ev y = some (.lit (str b))) : Flo P ⟨d, .binOp .eql t x y yt, ty, pos, aft, g⟩ st (.lit (.bool (decide (a = b)))) :=
  Flo.bin hx hy rfl (fun w => by simp only [binOp, Op.stringOp, toList_mk, beq_dec]; rfl)
theorem Does.eqlS {t yt : TypeId} {x y : Operand} {a b : List UInt8} (hx : st.ev x = some (.lit (str a))) (hy : st.ev y = some (.lit (str b))) (hd : fits d st.n = true := by rfl) :
    Does P ⟨d, .binOp .eql t x y yt, ty, pos, aft, g⟩ st (· = st.set d (.lit (.bool (decide (a = b))))) := (Flo.eqlS hx hy).does hd
theorem Flo.neqS {t yt : TypeId} {x y : Operand} {a b : List UInt8} (hx : st.ev x = some (.lit (str a))) (hy : st.ev y = some (.lit (str b))) : Flo P ⟨d, .binOp .neq t x y yt, ty, pos, aft, g⟩ st (.lit (.bool (decide (a ≠ b)))) :=
  Flo.bin hx hy rfl (fun w => by simp only [binOp, Op.stringOp, toList_mk]; by_cases h : a = b <;> simp [h])
theorem Does.neqS {t yt : TypeId} {x y : Operand} {a b : List UInt8} (hx : st.ev x = some (.lit (str a))) (hy : st.ev y = some (.lit (str b))) (hd : fits d st.n = true := by rfl) :
    Does P ⟨d, .binOp .neq t x y yt, ty, pos, aft, g⟩ st (· = st.set d (.lit (.bool (decide (a ≠ b))))) := (Flo.neqS hx hy).does hd
theorem Flo.lssS {t yt : TypeId} {x y : Operand} {a b : List UInt8} (hx : st.ev x = some (.lit (str a))) (hy : st.ev y = some (.lit (str b))) : Flo P ⟨d, .binOp .lss t x y yt, ty, pos, aft, g⟩ st (.lit (.bool (Op.bytesLess a b))) :=
  Flo.bin hx hy rfl (fun w => by simp only [binOp, Op.stringOp, toList_mk]; rfl)
theorem Does.lssS {t yt : TypeId} {x y : Operand} {a b : List UInt8} (hx : st.ev x = some (.lit (str a))) (hy : st.ev y = some (.lit (str b))) (hd : fits d st.n = true := by rfl) :
    Does P ⟨d, .binOp .lss t x y yt, ty, pos, aft, g⟩ st (· = st.set d (.lit (.bool (Op.bytesLess a b)))) := (Flo.lssS hx hy).does hd
theorem Flo.leqS {t yt : TypeId} {x y : Operand} {a b : List UInt8} (hx : st.ev x = some (.lit (str a))) (hy : st.ev y = some (.lit (str b))) : Flo P ⟨d, .binOp .leq t x y yt, ty, pos, aft, g⟩ st (.lit (.bool (Op.bytesLess a b || decide (a = b)))) :=
  Flo.bin hx hy rfl (fun w => by simp only [binOp, Op.stringOp, toList_mk, beq_dec]; rfl)
theorem Does.leqS {t yt : TypeId} {x y : Operand} {a b : List UInt8} (hx : st.ev x = some (.lit (str a))) (hy : st.ev y = some (.lit (str b))) (hd : fits d st.n = true := by rfl) :
    Does P ⟨d, .binOp .leq t x y yt, ty, pos, aft, g⟩ st (· = st.set d (.lit (.bool (Op.bytesLess a b || decide (a = b))))) := (Flo.leqS hx hy).does hd
theorem Flo.addS {t yt : TypeId} {x y : Operand} {a b : List UInt8} (hx : st.ev x = some (.lit (str a))) (hy : st.ev y = some (.lit (str b))) (hl : a.length + b.length ≤ 9223372036854775807) : Flo P ⟨d, .binOp .add t x y yt, ty, pos, aft, g⟩ st (.lit (str (a ++ b))) :=
  Flo.bin hx hy rfl (fun w => by
    have hn : ¬ ((((ByteArray.mk a.toArray).size + (ByteArray.mk b.toArray).size : Nat) : Int) > IntKind.i64.max) := by
      simp [ByteArray.size, IntKind.max, IntKind.bits]; omega
    have he : (ByteArray.mk a.toArray) ++ (ByteArray.mk b.toArray) = ByteArray.mk (a ++ b).toArray := by
      apply ByteArray.ext; simp
    simp only [binOp, Op.stringOp]
    rw [if_neg hn, he]; rfl)
theorem Does.addS {t yt : TypeId} {x y : Operand} {a b : List UInt8} (hx : st.ev x = some (.lit (str a))) (hy : st.ev y = some (.lit (str b))) (hl : a.length + b.length ≤ 9223372036854775807) (hd : fits d st.n = true := by rfl) :
    Does P ⟨d, .binOp .add t x y yt, ty, pos, aft, g⟩ st (· = st.set d (.lit (str (a ++ b)))) := (Flo.addS hx hy hl).does hd
theorem Flo.not {t : TypeId} {x : Operand} {b : Bool} (hx : st.ev x = some (.lit (.bool b))) : Flo P ⟨d, .unOp .not t x, ty, pos, aft, g⟩ st (.lit (.bool (!b))) :=
  fun _ _ _ a w hi => ⟨.bool (!b), fun _ _ => by simp [execOp, ev_lit hi hx, Op.unary], RepC.lit _⟩
theorem Does.not {t : TypeId} {x : Operand} {b : Bool} (hx : st.ev x = some (.lit (.bool b))) (hd : fits d st.n = true := by rfl) :
    Does P ⟨d, .unOp .not t x, ty, pos, aft, g⟩ st (· = st.set d (.lit (.bool (!b)))) := (Flo.not hx).does hd
theorem Flo.negI {t : TypeId} {x : Operand} {n : Int} (hx : st.ev x = some (.lit (.int .i64 n))) (h1 : -9223372036854775808 ≤ -n) (h2 : -n ≤ 9223372036854775807) : Flo P ⟨d, .unOp .neg t x, ty, pos, aft, g⟩ st (.lit (.int .i64 (-n))) :=
  fun _ _ _ a w hi => ⟨.int .i64 (-n), fun _ _ => by simp [execOp, ev_lit hi hx, Op.unary, Op.intArith, IntWalk.i64_in (-n) ⟨h1, h2⟩], RepC.lit _⟩
theorem Does.negI {t : TypeId} {x : Operand} {n : Int} (hx : st.ev x = some (.lit (.int .i64 n))) (h1 : -9223372036854775808 ≤ -n) (h2 : -n ≤ 9223372036854775807) (hd : fits d st.n = true := by rfl) :
    Does P ⟨d, .unOp .neg t x, ty, pos, aft, g⟩ st (· = st.set d (.lit (.int .i64 (-n)))) := (Flo.negI hx h1 h2).does hd
theorem Flo.extract {x : Operand} {xs : List V1} {i : Nat} {v : V1} (hx : st.ev x = some (.tup xs)) (hi : xs[i]? = some v) : Flo P ⟨d, .extract x i, ty, pos, aft, g⟩ st (.v v) :=
  fun _ _ _ a w hinv => by
    obtain ⟨us, he, h2⟩ := hinv.ev hx
    obtain ⟨u, hu, hr⟩ := h2.get hi
    exact ⟨u, fun _ _ => by simp [execOp, he, Instr.extract, hu], hr⟩
theorem Does.extract {x : Operand} {xs : List V1} {i : Nat} {v : V1} (hx : st.ev x = some (.tup xs)) (hi : xs[i]? = some v) (hd : fits d st.n = true := by rfl) :
    Does P ⟨d, .extract x i, ty, pos, aft, g⟩ st (· = st.set d (.v v)) := (Flo.extract hx hi).does hd
end
end Go.Fl
