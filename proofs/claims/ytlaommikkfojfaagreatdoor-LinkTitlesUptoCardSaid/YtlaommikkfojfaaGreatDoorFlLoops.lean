/- Steps over states: loops whose rounds are counted, scopes, arrays in variables, runes, functions of the library without a body. Lemmas alone. -/
import Derived.Test.YtlaommikkfojfaaGreatDoorFlCut
import Derived.LoopN
import Derived.LoopNIn
import Derived.Scope
import Derived.Laws.Externs
import Derived.Lib.Bytealg
namespace Go.Fl
open Go
section
variable {P : Program} {st : St} {Q : Exit → St → Prop} {c : Code}
def RT (P : Program) (c : Code) (Q : Exit → St → Prop) (ro : Option Nat) : Nat → St → Prop
  | 0, _ => False
  | n + 1, st => Tri P c st (Then (RT P c Q ro n) Q) ro
theorem RT.one {n : Nat} {ro : Option Nat} (h : Tri P c st (Then (RT P c Q ro n) Q) ro) : RT P c Q ro (n + 1) st := h
theorem rounds_of {ro : Option Nat} {G0 : Gh} : ∀ (n : Nat) {G : Gh} {st : St} {M : Mem} {ι : Iota} {a : Act} {w : World}, RT P c Q ro n st → Inv G M ι st a w → GLe G0 G → Code.roundsIn (rf ro) 0 P c (Lift G0 Q) n a w
  | 0, _, _, _, _, _, _, h, _, _ => h.elim
  | n + 1, G, st, M, ι, a, w, h, hi, hG => by
    refine wpIn_mono (h G M ι a w hi) fun e a' w' ⟨s, M', ι', G', h1, h2, h3⟩ => ?_
    cases e with
    | normal => exact rounds_of n h1 h2 (hG.trans h3)
    | _ => exact ⟨s, M', ι', G', h1, h2, hG.trans h3⟩
/-- A loop of so many rounds at most. -/
theorem Tri.rounds {ro : Option Nat} (n : Nat) (h : RT P c Q ro n st) : Tri P (.loop c) st Q ro := fun _ _ _ _ _ hi => wpIn_loop_rounds n (rounds_of n h hi (.refl _))
def NoGoto (Q : Exit → St → Prop) : Exit → St → Prop
  | .goto _, _ => False
  | e, st => Q e st
theorem Tri.scope (h : Tri P c st (NoGoto Q)) : Tri P (.scope c) st Q := by
  intro G M ι a w hi
  refine wpIn_wide.2 (wp_scope_straight (wp_mono (wpIn_wide.1 (h G M ι a w hi)) fun e a' w' ⟨s, M', ι', G', h1, h2⟩ => ?_))
  cases e with
  | goto l => exact h1.elim
  | _ => exact ⟨s, M', ι', G', h1, h2⟩
theorem Tri.label {l : Nat} (h : Q .normal st) : Tri P (.label l) st Q := fun _ _ _ _ _ hi => wpIn_wide.2 (wp_label (.mk h hi))
end
section
variable {P : Program} {st : St} {d : Option Nat} {ty : TypeId} {pos : String} {aft : Array Edge} {g : Option (Nat × Bool)}
/-- An element of an array that lies in a variable. -/
theorem Flo.idxA {t e : TypeId} {x y : Operand} {kd : IntKind} {o i j n sz m : Nat} (ht : P.underlying t = some (.array n e)) (hsz : ∀ w, (sizeOf e).run P w = .ok sz w) (hx : st.ev x = some (.one (.ptr o 0 j))) (hy : st.ev y = some (.lit (.int kd i))) (hi' : i < n) (hm : j + i * sz = m) :
    Flo P ⟨d, .indexAddr t x y, ty, pos, aft, g⟩ st (.one (.ptr o 0 m)) := by
  intro G M ι ac w hi
  obtain ⟨v, sz', b, h1, h2, h3⟩ := hi.ev hx
  refine ⟨.pointer (some ⟨b, offV v + (0 * sz' + m), none⟩), fun _ _ => ?_, v, sz', b, h1, h2, rfl⟩
  subst hm
  simp [execOp, h3, ev_lit hi hy, Instr.indexAt, Instr.sureAddr, asIntOf, run_underlying ht, hsz, hi', addr_add, Nat.add_assoc]
theorem arr_get {α : Type} {l : List α} {f : α → A} {i : Nat} {x : α} (h : l[i]? = some x) : (l.map f)[i]? = some (f x) := by simp [h]
def runeStr (n : Int) : List UInt8 := (Utf8.encode n).data.toList
theorem Flo.runeStr {s t : TypeId} {x : Operand} {k : IntKind} {n : Int} (hs : P.underlying s = some (.int k)) (ht : P.underlying t = some .string) (hx : st.ev x = some (.lit (.int k n))) :
    Flo P ⟨d, .convert s t x, ty, pos, aft, g⟩ st (.lit (str (runeStr n))) :=
  fun G M ι a w hi => ⟨.string (Utf8.encode n), fun w _ => by simp [execOp, ev_lit hi hx, convert, run_underlying hs, run_underlying ht, Conv.intToString, asInt, asIntOf], by
    have : str (Fl.runeStr n) = .string (Utf8.encode n) := by simp [str, Fl.runeStr]
    rw [← this]; exact RepC.lit _⟩
/-- A function without a body that yields a value of its arguments alone. -/
def ExtV (P : Program) (f : FuncId) (args : Array Value) (v : Value) : Prop := ∀ w, (callFunc f args).run P w = .ok (.value v) w
theorem Flo.ext2 {f : FuncId} {x y : Operand} {at' : Array TypeId} {u v r : Value} (h : ExtV P f #[u, v] r) (hx : st.ev x = some (.lit u)) (hy : st.ev y = some (.lit v)) :
    Flo P ⟨d, .call { callee := .value (.func f), args := #[x, y], argTypes := at' }, ty, pos, aft, g⟩ st (.lit r) :=
  fun G M ι a w hi => ⟨r, fun w _ => by
    have h1 := ev_lit hi hx; have h2 := ev_lit hi hy
    have hc : a.eval (.func f) = .func (.func f) #[] #[] := rfl
    simp [execOp, resolve, hc, Deferred.ofValue, invoke, h1, h2]
    exact h w, RepC.lit _⟩
def indexB (s : List UInt8) (c : Int) : Int := Go.Lib.indexByte s c.toNat.toUInt8
def countB (s : List UInt8) (c : Int) : Int := (Go.Lib.countByte s c.toNat.toUInt8 : Int)
theorem ext_indexB {fn : Func} {f : FuncId} (hf : P.funcs[f]? = some fn) (h1 : (fn.name == "runtime.NumGoroutine") = false) (h2 : fn.body.isNone = true) (h3 : Extern.findNext fn = none) (h4 : Extern.find fn = some Extern.BytealgIndexByte.indexByte) (s : List UInt8) (c : Int) :
    ExtV P f #[str s, .int .u8 c] (.int .i64 (indexB s c)) := by
  intro w
  rw [run_callFunc_extern hf h1 h2 h3 h4]
  simp only [str, Go.Lib.run_indexByteString, Result.andThen, indexB]
theorem ext_countB {fn : Func} {f : FuncId} (hf : P.funcs[f]? = some fn) (h1 : (fn.name == "runtime.NumGoroutine") = false) (h2 : fn.body.isNone = true) (h3 : Extern.findNext fn = none) (h4 : Extern.find fn = some Extern.BytealgCount.count) (s : List UInt8) (c : Int) :
    ExtV P f #[str s, .int .u8 c] (.int .i64 (countB s c)) := by
  intro w
  rw [run_callFunc_extern hf h1 h2 h3 h4]
  simp only [str, Go.Lib.run_countString, Result.andThen, countB]
theorem ptr_ne {G : Gh} {M : Mem} {ι : Iota} {a : Act} {w : World} (hi : Inv G M ι st a w) {x : Operand} {o i j : Nat} (hx : st.ev x = some (.one (.ptr o i j))) : ∃ b, a.eval x = .pointer (some b) := by
  obtain ⟨v, sz, b, _, _, h⟩ := hi.ev hx
  exact ⟨_, h⟩
theorem rp_ne {G : Gh} {M : Mem} {ι : Iota} {a : Act} {w : World} (hi : Inv G M ι st a w) {x : Operand} {cs : List C} (hx : st.ev x = some (.c (.rp cs))) : ∃ b, a.eval x = .pointer (some b) := by
  have h := hi.ev hx
  generalize a.eval x = u at h
  cases h with
  | rp cs b off f hu hr => exact ⟨_, rfl⟩
def NonNil (st : St) (x : Operand) : Prop := ∀ G M ι a w, Inv G M ι st a w → ∃ b, a.eval x = .pointer (some b)
theorem NonNil.ptr {x : Operand} {o i j : Nat} (hx : st.ev x = some (.one (.ptr o i j))) : NonNil st x := fun _ _ _ _ _ hi => ptr_ne hi hx
theorem NonNil.rp {x : Operand} {cs : List C} (hx : st.ev x = some (.c (.rp cs))) : NonNil st x := fun _ _ _ _ _ hi => rp_ne hi hx
theorem run_equalP {t e : TypeId} (ht : P.underlying t = some (.pointer e)) (b : Addr) (w : World) : (Op.equal t (.pointer (some b)) (.pointer none)).run P w = .ok false w := by
  have : (Op.equalIn (9999 + 1) t (.pointer (some b)) (.pointer none)).run P w = .ok false w := by
    unfold Op.equalIn
    simp [run_underlying ht]
  exact this
theorem run_equalN {t e : TypeId} (ht : P.underlying t = some (.pointer e)) (w : World) : (Op.equal t (.pointer none) (.pointer none)).run P w = .ok true w := by
  have : (Op.equalIn (9999 + 1) t (.pointer none) (.pointer none)).run P w = .ok true w := by
    unfold Op.equalIn
    simp [run_underlying ht]
  exact this
theorem Flo.eqlPN {t e yt : TypeId} {x y : Operand} (ht : P.underlying t = some (.pointer e)) (hx : NonNil st x) (hy : st.ev y = some (.lit (.pointer none))) : Flo P ⟨d, .binOp .eql t x y yt, ty, pos, aft, g⟩ st (.lit (.bool false)) :=
  fun G M ι a w hi => by
    obtain ⟨b, hb⟩ := hx G M ι a w hi
    refine ⟨.bool false, fun w _ => ?_, RepC.lit _⟩
    have hg : (eqGuard .eql t x y (.pointer (some b)) (.pointer none)).run P w = .ok () w := eqGuard_plain P .eql t x y w rfl
    simp [execOp, hg, hb, ev_lit hi hy, binOp, run_equalP ht]
theorem Flo.neqPN {t e yt : TypeId} {x y : Operand} (ht : P.underlying t = some (.pointer e)) (hx : NonNil st x) (hy : st.ev y = some (.lit (.pointer none))) : Flo P ⟨d, .binOp .neq t x y yt, ty, pos, aft, g⟩ st (.lit (.bool true)) :=
  fun G M ι a w hi => by
    obtain ⟨b, hb⟩ := hx G M ι a w hi
    refine ⟨.bool true, fun w _ => ?_, RepC.lit _⟩
    have hg : (eqGuard .neq t x y (.pointer (some b)) (.pointer none)).run P w = .ok () w := eqGuard_plain P .neq t x y w rfl
    simp [execOp, hg, hb, ev_lit hi hy, binOp, run_equalP ht]
theorem Flo.eqlNN {t e yt : TypeId} {x y : Operand} (ht : P.underlying t = some (.pointer e)) (hx : st.ev x = some (.lit (.pointer none))) (hy : st.ev y = some (.lit (.pointer none))) : Flo P ⟨d, .binOp .eql t x y yt, ty, pos, aft, g⟩ st (.lit (.bool true)) :=
  Flo.bin hx hy rfl (fun w => by simp [binOp, run_equalN ht])
theorem Flo.neqNN {t e yt : TypeId} {x y : Operand} (ht : P.underlying t = some (.pointer e)) (hx : st.ev x = some (.lit (.pointer none))) (hy : st.ev y = some (.lit (.pointer none))) : Flo P ⟨d, .binOp .neq t x y yt, ty, pos, aft, g⟩ st (.lit (.bool false)) :=
  Flo.bin hx hy rfl (fun w => by simp [binOp, run_equalN ht])
theorem Does.buildSlice0 {t e : TypeId} {sz : Nat} (ht : P.underlying t = some (.slice e)) (hsz : ∀ w, (sizeOf e).run P w = .ok sz w) (hd : fits d st.n = true := by rfl) :
    Does P ⟨d, .buildSlice t 0 #[], ty, pos, aft, g⟩ st (· = { st with H := (st.nx, .row e sz []) :: st.H, nx := st.nx + 1 }.set d (.one (.obj st.nx))) := by
  refine ⟨fun G M ι a w hi K Q hK => ?_⟩
  have hex : (execOp a.eval ⟨d, .buildSlice t 0 #[], ty, pos, aft, g⟩).run P w = .ok (.value (.slice (some ⟨w.heap.size, 0, none⟩) 0 0)) (w.alloc (.cells #[] e (0, 0))) := by
    simp [execOp, Instr.buildSlice, run_underlying ht, hsz, Instr.fill, newRow, Result.andThen]
    congr 2; simp [Array.range]
  simp only [Oper.wp, hex, Oper.upon]
  refine hK _ M _ _ _ rfl (hi.laid (x := (.slice (some ⟨w.heap.size, 0, none⟩) 0 0, sz)) (ob := .row e sz []) (.cells #[] e (0, 0)) rfl rfl (fun ι' hle => ⟨[], rfl, ⟨by simp, .inr ⟨w.heap.size, 0, 0, #[], rfl, ⟨_, alloc_at _ _, Clear.zero _⟩, Nat.le_refl _, Nat.zero_le _, by simp, by simp⟩⟩, by simp, trivial, by simp⟩) hd ⟨sz, by simp [iset]⟩)
theorem run_equalSl {t e : TypeId} (ht : P.underlying t = some (.slice e)) (p : Option Addr) (n c : Nat) (w : World) : (Op.equal t (.slice p n c) (.slice none 0 0)).run P w = .ok p.isNone w := by
  have : (Op.equalIn (9999 + 1) t (.slice p n c) (.slice none 0 0)).run P w = .ok p.isNone w := by
    unfold Op.equalIn
    cases p <;> simp [run_underlying ht]
  exact this
theorem Flo.lenN {t e : TypeId} {x : Operand} {at' : Array TypeId} (ht : P.underlying t = some (.slice e)) (hx : st.ev x = some (.lit (.slice none 0 0))) (hat : at'[0]? = some t) :
    Flo P ⟨d, .call { callee := .builtin .len, args := #[x], argTypes := at' }, ty, pos, aft, g⟩ st (.lit (.int .i64 0)) :=
  fun G M ι a w hi => ⟨.int .i64 0, fun _ _ => by simp [execOp, resolve, invoke, builtin, Builtin.len_, hat, run_underlying ht, ev_lit hi hx, goInt], RepC.lit _⟩
/-- A closed slice is held against nil: the answer is not known; yes only if it is empty. -/
theorem Does.nilS {t e yt : TypeId} {x y : Operand} {sz : Nat} {cl : Bool} {es : List (List C)} (hx : st.ev x = some (.c (.ro sz cl es))) (ht : P.underlying t = some (.slice e)) (hy : st.ev y = some (.lit (.slice none 0 0))) (hd : fits d st.n = true := by rfl) :
    Does P ⟨d, .binOp .eql t x y yt, ty, pos, aft, g⟩ st fun s => ∃ b, (b = true → es = []) ∧ s = st.set d (.lit (.bool b)) := by
  refine ⟨fun G M ι a w hi K Q hK => ?_⟩
  have hr := hi.ev hx
  have key : ∃ p n c, a.eval x = .slice p n c ∧ (p.isNone = true → es = []) := by
    generalize a.eval x = u at hr
    cases hr with
    | nil sz cl p c hp hcl hm => exact ⟨p, 0, c, rfl, fun _ => rfl⟩
    | ro sz cl es b off c u hne hsz' hc hm hcl hu' hr => exact ⟨some ⟨b, off, none⟩, es.length, c, rfl, fun h => by simp at h⟩
  obtain ⟨p, n, c, he, hn⟩ := key
  have hg : (eqGuard .eql t x y (.slice p n c) (.slice none 0 0)).run P w = .ok () w := eqGuard_plain P .eql t x y w rfl
  have hex : (execOp a.eval ⟨d, .binOp .eql t x y yt, ty, pos, aft, g⟩).run P w = .ok (.value (.bool p.isNone)) w := by
    simp [execOp, he, ev_lit hi hy, hg, binOp, run_equalSl ht]
  simp only [Oper.wp, hex, Oper.upon]
  exact hK _ M ι _ _ ⟨p.isNone, hn, rfl⟩ (hi.put (fits_spec hd) (RepC.lit _))
end
end Go.Fl
