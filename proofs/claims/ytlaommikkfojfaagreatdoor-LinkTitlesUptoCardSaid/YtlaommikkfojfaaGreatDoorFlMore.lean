/- Steps over states: least and greatest, conversions of numbers, function values. Lemmas alone. -/
import Derived.Test.YtlaommikkfojfaaGreatDoorFlStr
namespace Go.Fl
open Go
section
variable {P : Program} {st : St} {d : Option Nat} {ty : TypeId} {pos : String} {aft : Array Edge} {g : Option (Nat × Bool)}
theorem Flo.min2 {x y : Operand} {at' : Array TypeId} {k : IntKind} {a b : Int} (hx : st.ev x = some (.lit (.int k a))) (hy : st.ev y = some (.lit (.int k b))) :
    Flo P ⟨d, .call { callee := .builtin .min, args := #[x, y], argTypes := at' }, ty, pos, aft, g⟩ st (.lit (.int k (if b < a then b else a))) :=
  fun _ _ _ ac _ hi => ⟨.int k (if b < a then b else a), fun _ _ => by simp [execOp, resolve, invoke, builtin, Builtin.min_, Builtin.min2, ev_lit hi hx, ev_lit hi hy], RepC.lit _⟩
theorem Flo.max2 {x y : Operand} {at' : Array TypeId} {k : IntKind} {a b : Int} (hx : st.ev x = some (.lit (.int k a))) (hy : st.ev y = some (.lit (.int k b))) :
    Flo P ⟨d, .call { callee := .builtin .max, args := #[x, y], argTypes := at' }, ty, pos, aft, g⟩ st (.lit (.int k (if b > a then b else a))) :=
  fun _ _ _ ac _ hi => ⟨.int k (if b > a then b else a), fun _ _ => by simp [execOp, resolve, invoke, builtin, Builtin.max_, Builtin.max2, ev_lit hi hx, ev_lit hi hy], RepC.lit _⟩
theorem Flo.min3 {x y z : Operand} {at' : Array TypeId} {k : IntKind} {a b c : Int} (hx : st.ev x = some (.lit (.int k a))) (hy : st.ev y = some (.lit (.int k b))) (hz : st.ev z = some (.lit (.int k c))) :
    Flo P ⟨d, .call { callee := .builtin .min, args := #[x, y, z], argTypes := at' }, ty, pos, aft, g⟩ st (.lit (.int k (if c < (if b < a then b else a) then c else if b < a then b else a))) :=
  fun _ _ _ ac _ hi => ⟨.int k (if c < (if b < a then b else a) then c else if b < a then b else a), fun _ _ => by simp [execOp, resolve, invoke, builtin, Builtin.min_, Builtin.min2, ev_lit hi hx, ev_lit hi hy, ev_lit hi hz], RepC.lit _⟩
theorem Flo.convII {s t : TypeId} {x : Operand} {k k' : IntKind} {ds : TypeDesc} {n : Int} (hs : P.underlying s = some ds) (ht : P.underlying t = some (.int k)) (hx : st.ev x = some (.lit (.int k' n))) :
    Flo P ⟨d, .convert s t x, ty, pos, aft, g⟩ st (.lit (.int k (k.wrap n))) :=
  fun _ _ _ ac _ hi => ⟨.int k (k.wrap n), fun _ _ => by simp [execOp, convert, run_underlying hs, run_underlying ht, ev_lit hi hx, Conv.intToInt], RepC.lit _⟩
/-- Shifts of numbers. -/
def shrK (k : IntKind) (a b : Int) : Int := a.fdiv (2 ^ min b.toNat k.bits)
def shlK (k : IntKind) (a b : Int) : Int := k.wrap (a * 2 ^ min b.toNat k.bits)
theorem Flo.shrK {t yt : TypeId} {x y : Operand} {k k' : IntKind} {a b : Int} (hx : st.ev x = some (.lit (.int k a))) (hy : st.ev y = some (.lit (.int k' b))) (hb : 0 ≤ b) : Flo P ⟨d, .binOp .shr t x y yt, ty, pos, aft, g⟩ st (.lit (.int k (Fl.shrK k a b))) :=
  Flo.bin hx hy rfl (fun w => by
    have : ¬ b < 0 := by omega
    simp [binOp, Op.shift, this, Fl.shrK])
theorem Flo.shlK {t yt : TypeId} {x y : Operand} {k k' : IntKind} {a b : Int} (hx : st.ev x = some (.lit (.int k a))) (hy : st.ev y = some (.lit (.int k' b))) (hb : 0 ≤ b) : Flo P ⟨d, .binOp .shl t x y yt, ty, pos, aft, g⟩ st (.lit (.int k (Fl.shlK k a b))) :=
  Flo.bin hx hy rfl (fun w => by
    have : ¬ b < 0 := by omega
    simp [binOp, Op.shift, this, Fl.shlK])
theorem Flo.negK {t : TypeId} {x : Operand} {k : IntKind} {n : Int} (hx : st.ev x = some (.lit (.int k n))) : Flo P ⟨d, .unOp .neg t x, ty, pos, aft, g⟩ st (.lit (.int k (k.wrap (-n)))) :=
  fun _ _ _ a w hi => ⟨.int k (k.wrap (-n)), fun _ _ => by simp [execOp, ev_lit hi hx, Op.unary, Op.intArith], RepC.lit _⟩
theorem Flo.convSS {s t : TypeId} {x : Operand} {ds : TypeDesc} {n : ByteArray} (hs : P.underlying s = some ds) (ht : P.underlying t = some .string) (hx : st.ev x = some (.lit (.string n))) :
    Flo P ⟨d, .convert s t x, ty, pos, aft, g⟩ st (.lit (.string n)) :=
  fun _ _ _ ac _ hi => ⟨.string n, fun _ _ => by simp [execOp, convert, run_underlying hs, run_underlying ht, ev_lit hi hx], RepC.lit _⟩
/-- What function literals capture: addresses of own variables. -/
def capsOf (st : St) : List Operand → Option (List Nat)
  | [] => some []
  | x :: xs => match st.ev x, capsOf st xs with
    | some (.v (.one (.ptr o 0 0))), some l => some (o :: l)
    | _, _ => none
theorem caps_rep {G : Gh} {M : Mem} {ι : Iota} {a : Act} {w : World} (hi : Inv G M ι st a w) : ∀ {xs : List Operand} {os : List Nat}, capsOf st xs = some os → All2 (fun o v => PtrTo ι o 0 0 v) os (xs.map a.eval)
  | [], os, h => by simp [capsOf] at h; subst h; trivial
  | x :: xs, os, h => by
    simp only [capsOf] at h
    split at h
    · rename_i o l h1 h2
      simp at h; subst h
      exact ⟨hi.ev h1, caps_rep hi h2⟩
    · cases h
theorem Flo.makeFunc {f : FuncId} {cs : Array Operand} {os : List Nat} (hc : capsOf st cs.toList = some os) : Flo P ⟨d, .makeFunc (.func f) #[] cs, ty, pos, aft, g⟩ st (.one (.fn f os)) :=
  fun _ _ _ ac _ hi => ⟨.func (.func f) #[] (cs.map ac.eval), fun _ _ => by simp [execOp, Instr.makeFunc], (cs.toList.map ac.eval), by rw [← Array.toList_map, Array.toArray_toList], caps_rep hi hc⟩
end
end Go.Fl
