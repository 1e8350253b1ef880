/- The steps in the form that the printed walks use. Lemmas alone. -/
import Derived.Test.YtlaommikkfojfaaGreatDoorFlLoops
namespace Go.Fl
open Go
/-- An operation's guard lets it be carried out. -/
def Gd (ops : Array Oper) (fr : Fr) (g : Option (Nat × Bool)) : Prop := g = none ∨ ∃ j b t, g = some (j, b) ∧ (ops[j]?).bind (·.dst) = some t ∧ look t fr = some (.lit (.bool b))
section
variable {P : Program} {ops : Array Oper} {l : List Oper} {Q : Exit → St → Prop} {n nx : Nat} {fr : Fr} {H : List (Nat × Ob)} {d : Option Nat} {ty : TypeId} {pos : String} {aft : Array Edge} {g : Option (Nat × Bool)} {ro : Option Nat}
theorem Gd.no : Gd ops fr none := .inl rfl
theorem Gd.t (j : Nat) (b : Bool) (t : Nat) (h1 : (ops[j]?).bind (·.dst) = some t) (h2 : look t fr = some (.lit (.bool b))) : Gd ops fr (some (j, b)) := .inr ⟨j, b, t, rfl, h1, h2⟩
theorem TOps.gd {o : Oper} {st : St} {R : St → Prop} (hd : Does P o st R) (hg : Gd ops st.fr o.guard) (h : ∀ s, R s → TOps P ops l s Q ro) (hnd : notDefer o.op = true) : TOps P ops (o :: l) st Q ro := by
  rcases hg with hg | ⟨j, b, t, h1, h2, h3⟩
  · exact TOps.step hd h hnd hg
  · exact TOps.gT j b t h1 h2 h3 hd h hnd
/-- An operation that yields one value. -/
theorem R.flo {op : Op} {v : V} (hg : Gd ops fr g) (h : Flo P ⟨d, op, ty, pos, aft, g⟩ ⟨n, fr, H, nx⟩ v) (k : TOps P ops l ⟨n, setD d (some v) fr, H, nx⟩ Q ro) (hd : fits d n = true := by rfl) (hnd : notDefer op = true := by rfl) : TOps P ops (⟨d, op, ty, pos, aft, g⟩ :: l) ⟨n, fr, H, nx⟩ Q ro :=
  TOps.gd (h.does hd) hg (fun _ e => e ▸ k) hnd
/-- An operation that goes on in one state. -/
theorem R.eff {op : Op} {s' : St} (hg : Gd ops fr g) (h : Does P ⟨d, op, ty, pos, aft, g⟩ ⟨n, fr, H, nx⟩ (· = s')) (k : TOps P ops l s' Q ro) (hnd : notDefer op = true := by rfl) : TOps P ops (⟨d, op, ty, pos, aft, g⟩ :: l) ⟨n, fr, H, nx⟩ Q ro :=
  TOps.gd h hg (fun _ e => e ▸ k) hnd
theorem R.nil {st : St} (h : Q .normal st) : TOps P ops [] st Q ro := TOps.nil h
/-- An operation's guard does not let it be carried out. -/
inductive NotGd (ops : Array Oper) (fr : Fr) : Option (Nat × Bool) → Prop
  | f (j : Nat) (b : Bool) (t : Nat) (h1 : (ops[j]?).bind (·.dst) = some t) (h2 : look t fr = some (.lit (.bool b))) : NotGd ops fr (some (j, !b))
  | u (j : Nat) (b : Bool) (t : Nat) (h1 : (ops[j]?).bind (·.dst) = some t) (h2 : look t fr = some (.lit undef)) : NotGd ops fr (some (j, b))
theorem NotGd.wanted {o : Oper} {st : St} {G : Gh} {M : Mem} {ι : Iota} {a : Act} {w : World} {gg : Option (Nat × Bool)} (h : NotGd ops st.fr gg) (hi : Inv G M ι st a w) (hg : o.guard = gg) : Region.wanted o (yielded ops a.tmps) = false := by
  cases h with
  | f j b t h1 h2 => rw [wanted_of hi hg h1 h2]; cases b <;> rfl
  | u j b t h1 h2 =>
    obtain ⟨u, hu, hr⟩ := hi.get (t := t) h2
    cases hr
    simp [Region.wanted, hg, yielded, h1, hu, undef]
/-- A guarded operation that is passed over. -/
theorem R.skip {o : Oper} (hn : NotGd ops fr o.guard) (h : TOps P ops l ⟨n, setD o.dst (some (.lit undef)) fr, H, nx⟩ Q ro) (hd : fits o.dst n = true := by rfl) : TOps P ops (o :: l) ⟨n, fr, H, nx⟩ Q ro := by
  intro G M ι a w hi
  refine wpListIn_step fun K hK => ?_
  rw [hn.wanted hi rfl]
  simp only [Bool.false_eq_true, if_false]
  exact ⟨fun f _ => rf_fn ro f, hK _ _ (h G M ι _ w (hi.put (fits_spec hd) (RepC.lit undef)))⟩
/-- A call under a contract. -/
theorem R.call {f : FuncId} {xs : Array Operand} {at' : Array TypeId} {H1 H2 : List (Nat × Ob)} {vs : List V1} {K : V → List (Nat × Ob) → Nat → Prop} (hg : Gd ops fr g) (he : Enters P f) (ha : argsOf (St.mk n fr H nx) xs.toList = some vs) (hk : OkH P f vs H1 nx K) (hp : H.Perm (H1 ++ H2)) (k : ∀ r H' nx', K r H' nx' → TOps P ops l ⟨n, setD d (some r) fr, H' ++ H2, nx'⟩ Q ro) (hd : fits d n = true := by rfl) :
    TOps P ops (⟨d, .call { callee := .value (.func f), args := xs, argTypes := at' }, ty, pos, aft, g⟩ :: l) ⟨n, fr, H, nx⟩ Q ro :=
  TOps.gd (Does.call he ha hk hp hd) hg (fun _ ⟨r, H', nx', h1, h2⟩ => h2 ▸ k r H' nx' h1) rfl
theorem R.callV {f : FuncId} {caps : List Nat} {x : Operand} {xs : Array Operand} {at' : Array TypeId} {H1 H2 : List (Nat × Ob)} {vs : List V1} {K : V → List (Nat × Ob) → Nat → Prop} (hg : Gd ops fr g) (he : Enters P f) (hx : (St.mk n fr H nx).ev x = some (.one (.fn f caps))) (ha : argsOf (St.mk n fr H nx) xs.toList = some vs) (hk : OkH P f (vs ++ caps.map fun o => .one (.ptr o 0 0)) H1 nx K) (hp : H.Perm (H1 ++ H2)) (k : ∀ r H' nx', K r H' nx' → TOps P ops l ⟨n, setD d (some r) fr, H' ++ H2, nx'⟩ Q ro) (hd : fits d n = true := by rfl) :
    TOps P ops (⟨d, .call { callee := .value x, args := xs, argTypes := at' }, ty, pos, aft, g⟩ :: l) ⟨n, fr, H, nx⟩ Q ro :=
  TOps.gd (Does.callV he hx ha hk hp hd) hg (fun _ ⟨r, H', nx', h1, h2⟩ => h2 ▸ k r H' nx' h1) rfl

theorem Y.move {x : Operand} {v : V} (hx : (St.mk n fr H nx).ev x = some (v)) : Flo P ⟨d, .move x, ty, pos, aft, g⟩ ⟨n, fr, H, nx⟩ (v) :=
  Flo.move hx
theorem Y.assign {x : Operand} {v : V} (hx : (St.mk n fr H nx).ev x = some (v)) : Flo P ⟨d, .assign x, ty, pos, aft, g⟩ ⟨n, fr, H, nx⟩ (v) :=
  Flo.assign hx
theorem Y.pickT {c x y : Operand} {v : V} (hc : (St.mk n fr H nx).ev c = some (.lit (.bool true))) (hx : (St.mk n fr H nx).ev x = some (v)) : Flo P ⟨d, .pick c x y, ty, pos, aft, g⟩ ⟨n, fr, H, nx⟩ (v) :=
  Flo.pickT hc hx
theorem Y.pickF {c x y : Operand} {v : V} (hc : (St.mk n fr H nx).ev c = some (.lit (.bool false))) (hy : (St.mk n fr H nx).ev y = some (v)) : Flo P ⟨d, .pick c x y, ty, pos, aft, g⟩ ⟨n, fr, H, nx⟩ (v) :=
  Flo.pickF hc hy
theorem Y.addI {t yt : TypeId} {x y : Operand} {a b : Int} (hx : (St.mk n fr H nx).ev x = some (.lit (.int .i64 a))) (hy : (St.mk n fr H nx).ev y = some (.lit (.int .i64 b))) (h1 : -9223372036854775808 ≤ a + b) (h2 : a + b ≤ 9223372036854775807) : Flo P ⟨d, .binOp .add t x y yt, ty, pos, aft, g⟩ ⟨n, fr, H, nx⟩ (.lit (.int .i64 (a + b))) :=
  Flo.addI hx hy h1 h2
theorem Y.addK {kd : IntKind} {t yt : TypeId} {x y : Operand} {a b : Int} (hx : (St.mk n fr H nx).ev x = some (.lit (.int kd a))) (hy : (St.mk n fr H nx).ev y = some (.lit (.int kd b))) : Flo P ⟨d, .binOp .add t x y yt, ty, pos, aft, g⟩ ⟨n, fr, H, nx⟩ (.lit (.int kd (kd.wrap (a + b)))) :=
  Flo.addK hx hy
theorem Y.subI {t yt : TypeId} {x y : Operand} {a b : Int} (hx : (St.mk n fr H nx).ev x = some (.lit (.int .i64 a))) (hy : (St.mk n fr H nx).ev y = some (.lit (.int .i64 b))) (h1 : -9223372036854775808 ≤ a - b) (h2 : a - b ≤ 9223372036854775807) : Flo P ⟨d, .binOp .sub t x y yt, ty, pos, aft, g⟩ ⟨n, fr, H, nx⟩ (.lit (.int .i64 (a - b))) :=
  Flo.subI hx hy h1 h2
theorem Y.subK {kd : IntKind} {t yt : TypeId} {x y : Operand} {a b : Int} (hx : (St.mk n fr H nx).ev x = some (.lit (.int kd a))) (hy : (St.mk n fr H nx).ev y = some (.lit (.int kd b))) : Flo P ⟨d, .binOp .sub t x y yt, ty, pos, aft, g⟩ ⟨n, fr, H, nx⟩ (.lit (.int kd (kd.wrap (a - b)))) :=
  Flo.subK hx hy
theorem Y.mulI {t yt : TypeId} {x y : Operand} {a b : Int} (hx : (St.mk n fr H nx).ev x = some (.lit (.int .i64 a))) (hy : (St.mk n fr H nx).ev y = some (.lit (.int .i64 b))) (h1 : -9223372036854775808 ≤ a * b) (h2 : a * b ≤ 9223372036854775807) : Flo P ⟨d, .binOp .mul t x y yt, ty, pos, aft, g⟩ ⟨n, fr, H, nx⟩ (.lit (.int .i64 (a * b))) :=
  Flo.mulI hx hy h1 h2
theorem Y.mulK {kd : IntKind} {t yt : TypeId} {x y : Operand} {a b : Int} (hx : (St.mk n fr H nx).ev x = some (.lit (.int kd a))) (hy : (St.mk n fr H nx).ev y = some (.lit (.int kd b))) : Flo P ⟨d, .binOp .mul t x y yt, ty, pos, aft, g⟩ ⟨n, fr, H, nx⟩ (.lit (.int kd (kd.wrap (a * b)))) :=
  Flo.mulK hx hy
theorem Y.quoI {t yt : TypeId} {x y : Operand} {a b : Int} (hx : (St.mk n fr H nx).ev x = some (.lit (.int .i64 a))) (hy : (St.mk n fr H nx).ev y = some (.lit (.int .i64 b))) (hb : b ≠ 0) (h1 : -9223372036854775808 ≤ a.tdiv b) (h2 : a.tdiv b ≤ 9223372036854775807) : Flo P ⟨d, .binOp .quo t x y yt, ty, pos, aft, g⟩ ⟨n, fr, H, nx⟩ (.lit (.int .i64 (a.tdiv b))) :=
  Flo.quoI hx hy hb h1 h2
theorem Y.remI {kd : IntKind} {t yt : TypeId} {x y : Operand} {a b : Int} (hx : (St.mk n fr H nx).ev x = some (.lit (.int kd a))) (hy : (St.mk n fr H nx).ev y = some (.lit (.int kd b))) (hb : b ≠ 0) : Flo P ⟨d, .binOp .rem t x y yt, ty, pos, aft, g⟩ ⟨n, fr, H, nx⟩ (.lit (.int kd (a.tmod b))) :=
  Flo.remI hx hy hb
theorem Y.eqlI {kd : IntKind} {t yt : TypeId} {x y : Operand} {a b : Int} (hx : (St.mk n fr H nx).ev x = some (.lit (.int kd a))) (hy : (St.mk n fr H nx).ev y = some (.lit (.int kd b))) : Flo P ⟨d, .binOp .eql t x y yt, ty, pos, aft, g⟩ ⟨n, fr, H, nx⟩ (.lit (.bool (decide (a = b)))) :=
  Flo.eqlI hx hy
theorem Y.neqI {kd : IntKind} {t yt : TypeId} {x y : Operand} {a b : Int} (hx : (St.mk n fr H nx).ev x = some (.lit (.int kd a))) (hy : (St.mk n fr H nx).ev y = some (.lit (.int kd b))) : Flo P ⟨d, .binOp .neq t x y yt, ty, pos, aft, g⟩ ⟨n, fr, H, nx⟩ (.lit (.bool (decide (a ≠ b)))) :=
  Flo.neqI hx hy
theorem Y.lssI {kd : IntKind} {t yt : TypeId} {x y : Operand} {a b : Int} (hx : (St.mk n fr H nx).ev x = some (.lit (.int kd a))) (hy : (St.mk n fr H nx).ev y = some (.lit (.int kd b))) : Flo P ⟨d, .binOp .lss t x y yt, ty, pos, aft, g⟩ ⟨n, fr, H, nx⟩ (.lit (.bool (decide (a < b)))) :=
  Flo.lssI hx hy
theorem Y.leqI {kd : IntKind} {t yt : TypeId} {x y : Operand} {a b : Int} (hx : (St.mk n fr H nx).ev x = some (.lit (.int kd a))) (hy : (St.mk n fr H nx).ev y = some (.lit (.int kd b))) : Flo P ⟨d, .binOp .leq t x y yt, ty, pos, aft, g⟩ ⟨n, fr, H, nx⟩ (.lit (.bool (decide (a ≤ b)))) :=
  Flo.leqI hx hy
theorem Y.gtrI {kd : IntKind} {t yt : TypeId} {x y : Operand} {a b : Int} (hx : (St.mk n fr H nx).ev x = some (.lit (.int kd a))) (hy : (St.mk n fr H nx).ev y = some (.lit (.int kd b))) : Flo P ⟨d, .binOp .gtr t x y yt, ty, pos, aft, g⟩ ⟨n, fr, H, nx⟩ (.lit (.bool (decide (b < a)))) :=
  Flo.gtrI hx hy
theorem Y.geqI {kd : IntKind} {t yt : TypeId} {x y : Operand} {a b : Int} (hx : (St.mk n fr H nx).ev x = some (.lit (.int kd a))) (hy : (St.mk n fr H nx).ev y = some (.lit (.int kd b))) : Flo P ⟨d, .binOp .geq t x y yt, ty, pos, aft, g⟩ ⟨n, fr, H, nx⟩ (.lit (.bool (decide (b ≤ a)))) :=
  Flo.geqI hx hy
theorem Y.eqlS {t yt : TypeId} {x y : Operand} {a b : List UInt8} (hx : (St.mk n fr H nx).ev x = some (.lit (str a))) (hy : (St.mk n fr H nx).ev y = some (.lit (str b))) : Flo P ⟨d, .binOp .eql t x y yt, ty, pos, aft, g⟩ ⟨n, fr, H, nx⟩ (.lit (.bool (decide (a = b)))) :=
  Flo.eqlS hx hy
theorem Y.neqS {t yt : TypeId} {x y : Operand} {a b : List UInt8} (hx : (St.mk n fr H nx).ev x = some (.lit (str a))) (hy : (St.mk n fr H nx).ev y = some (.lit (str b))) : Flo P ⟨d, .binOp .neq t x y yt, ty, pos, aft, g⟩ ⟨n, fr, H, nx⟩ (.lit (.bool (decide (a ≠ b)))) :=
  Flo.neqS hx hy
theorem Y.lssS {t yt : TypeId} {x y : Operand} {a b : List UInt8} (hx : (St.mk n fr H nx).ev x = some (.lit (str a))) (hy : (St.mk n fr H nx).ev y = some (.lit (str b))) : Flo P ⟨d, .binOp .lss t x y yt, ty, pos, aft, g⟩ ⟨n, fr, H, nx⟩ (.lit (.bool (Op.bytesLess a b))) :=
  Flo.lssS hx hy
theorem Y.leqS {t yt : TypeId} {x y : Operand} {a b : List UInt8} (hx : (St.mk n fr H nx).ev x = some (.lit (str a))) (hy : (St.mk n fr H nx).ev y = some (.lit (str b))) : Flo P ⟨d, .binOp .leq t x y yt, ty, pos, aft, g⟩ ⟨n, fr, H, nx⟩ (.lit (.bool (Op.bytesLess a b || decide (a = b)))) :=
  Flo.leqS hx hy
theorem Y.eqlB {t yt : TypeId} {x y : Operand} {a b : Bool} (ht : P.underlying t = some .bool) (hx : (St.mk n fr H nx).ev x = some (.lit (.bool a))) (hy : (St.mk n fr H nx).ev y = some (.lit (.bool b))) : Flo P ⟨d, .binOp .eql t x y yt, ty, pos, aft, g⟩ ⟨n, fr, H, nx⟩ (.lit (.bool (decide (a = b)))) :=
  Flo.eqlB ht hx hy
theorem Y.neqB {t yt : TypeId} {x y : Operand} {a b : Bool} (ht : P.underlying t = some .bool) (hx : (St.mk n fr H nx).ev x = some (.lit (.bool a))) (hy : (St.mk n fr H nx).ev y = some (.lit (.bool b))) : Flo P ⟨d, .binOp .neq t x y yt, ty, pos, aft, g⟩ ⟨n, fr, H, nx⟩ (.lit (.bool (decide (a ≠ b)))) :=
  Flo.neqB ht hx hy
theorem Y.addS {t yt : TypeId} {x y : Operand} {a b : List UInt8} (hx : (St.mk n fr H nx).ev x = some (.lit (str a))) (hy : (St.mk n fr H nx).ev y = some (.lit (str b))) (hl : a.length + b.length ≤ 9223372036854775807) : Flo P ⟨d, .binOp .add t x y yt, ty, pos, aft, g⟩ ⟨n, fr, H, nx⟩ (.lit (str (a ++ b))) :=
  Flo.addS hx hy hl
theorem Y.not {t : TypeId} {x : Operand} {b : Bool} (hx : (St.mk n fr H nx).ev x = some (.lit (.bool b))) : Flo P ⟨d, .unOp .not t x, ty, pos, aft, g⟩ ⟨n, fr, H, nx⟩ (.lit (.bool (!b))) :=
  Flo.not hx
theorem Y.negI {t : TypeId} {x : Operand} {a : Int} (hx : (St.mk n fr H nx).ev x = some (.lit (.int .i64 a))) (h1 : -9223372036854775808 ≤ -a) (h2 : -a ≤ 9223372036854775807) : Flo P ⟨d, .unOp .neg t x, ty, pos, aft, g⟩ ⟨n, fr, H, nx⟩ (.lit (.int .i64 (-a))) :=
  Flo.negI hx h1 h2
theorem Y.extract {x : Operand} {xs : List V1} {i : Nat} {v : V1} (hx : (St.mk n fr H nx).ev x = some (.tup xs)) (hi : xs[i]? = some v) : Flo P ⟨d, .extract x i, ty, pos, aft, g⟩ ⟨n, fr, H, nx⟩ (.v v) :=
  Flo.extract hx hi
theorem Y.loadB1 {t e : TypeId} {x : Operand} {o j : Nat} {cs : List A} {c : A} (hx : (St.mk n fr H nx).ev x = some (.one (.ptr o 0 j))) (q : Nat) (hq : H[q]? = some (o, .box e cs)) (hc : cs[j]? = some c) (hag : ∀ w, (isAgg t).run P w = .ok false w) : Flo P ⟨d, .load t x, ty, pos, aft, g⟩ ⟨n, fr, H, nx⟩ (.one c) :=
  Flo.loadB1 hx q hq hc hag
theorem Y.loadBN {t e : TypeId} {x : Operand} {o j m : Nat} {cs r : List A} (hx : (St.mk n fr H nx).ev x = some (.one (.ptr o 0 j))) (q : Nat) (hq : H[q]? = some (o, .box e cs)) (hag : ∀ w, (isAgg t).run P w = .ok true w) (hsz : ∀ w, (sizeOf t).run P w = .ok m w) (hn : Nat.ble m (cs.drop j).length = true) (hr : (cs.drop j).take m = r) : Flo P ⟨d, .load t x, ty, pos, aft, g⟩ ⟨n, fr, H, nx⟩ (.agg r) :=
  by subst hr; exact Flo.loadBN hx q hq hag hsz (Nat.le_of_ble_eq_true hn)
theorem Y.loadP1 {t : TypeId} {x : Operand} {cs : List C} {c : C} (hx : (St.mk n fr H nx).ev x = some (.c (.rp cs))) (hc : cs[0]? = some c) (hag : ∀ w, (isAgg t).run P w = .ok false w) : Flo P ⟨d, .load t x, ty, pos, aft, g⟩ ⟨n, fr, H, nx⟩ (.c c) :=
  Flo.loadP1 hx hc hag
theorem Y.loadPN {t : TypeId} {x : Operand} {m : Nat} {cs : List C} {r : List A} (hx : (St.mk n fr H nx).ev x = some (.c (.rp cs))) (hag : ∀ w, (isAgg t).run P w = .ok true w) (hsz : ∀ w, (sizeOf t).run P w = .ok m w) (hn : Nat.ble m cs.length = true) (hr : (cs.take m).map A.c = r) : Flo P ⟨d, .load t x, ty, pos, aft, g⟩ ⟨n, fr, H, nx⟩ (.agg r) :=
  by subst hr; exact Flo.loadPN hx hag hsz (Nat.le_of_ble_eq_true hn)
theorem Y.loadR1 {t e : TypeId} {x : Operand} {o i j sz : Nat} {es : List (List A)} {el : List A} {c : A} (hx : (St.mk n fr H nx).ev x = some (.one (.ptr o i j))) (q : Nat) (hq : H[q]? = some (o, .row e sz es)) (he : es[i]? = some el) (hc : el[j]? = some c) (hag : ∀ w, (isAgg t).run P w = .ok false w) : Flo P ⟨d, .load t x, ty, pos, aft, g⟩ ⟨n, fr, H, nx⟩ (.one c) :=
  Flo.loadR1 hx q hq he hc hag
theorem Y.loadRN {t e : TypeId} {x : Operand} {o i j m sz : Nat} {es : List (List A)} {el r : List A} (hx : (St.mk n fr H nx).ev x = some (.one (.ptr o i j))) (q : Nat) (hq : H[q]? = some (o, .row e sz es)) (he : es[i]? = some el) (hag : ∀ w, (isAgg t).run P w = .ok true w) (hsz : ∀ w, (sizeOf t).run P w = .ok m w) (hn : Nat.ble m (el.drop j).length = true) (hr : (el.drop j).take m = r) : Flo P ⟨d, .load t x, ty, pos, aft, g⟩ ⟨n, fr, H, nx⟩ (.agg r) :=
  by subst hr; exact Flo.loadRN hx q hq he hag hsz (Nat.le_of_ble_eq_true hn)
theorem Y.fieldP {s : TypeId} {x : Operand} {o i j f off : Nat} (hf : FieldOff P s f off) (hx : (St.mk n fr H nx).ev x = some (.one (.ptr o i j))) : Flo P ⟨d, .fieldAddr s x f, ty, pos, aft, g⟩ ⟨n, fr, H, nx⟩ (.one (.ptr o i (j + off))) :=
  Flo.fieldP hf hx
theorem Y.fieldR {s : TypeId} {x : Operand} {cs : List C} {f off : Nat} (hf : FieldOff P s f off) (hx : (St.mk n fr H nx).ev x = some (.c (.rp cs))) : Flo P ⟨d, .fieldAddr s x f, ty, pos, aft, g⟩ ⟨n, fr, H, nx⟩ (.c (.rp (cs.drop off))) :=
  Flo.fieldR hf hx
theorem Y.nilP {x : Operand} {o i j : Nat} (hx : (St.mk n fr H nx).ev x = some (.one (.ptr o i j))) : Flo P ⟨d, .nilCheck x, ty, pos, aft, g⟩ ⟨n, fr, H, nx⟩ (.one (.ptr o i j)) :=
  Flo.nilP hx
theorem Y.nilR {x : Operand} {cs : List C} (hx : (St.mk n fr H nx).ev x = some (.c (.rp cs))) : Flo P ⟨d, .nilCheck x, ty, pos, aft, g⟩ ⟨n, fr, H, nx⟩ (.c (.rp cs)) :=
  Flo.nilR hx
theorem Y.lenR {t e : TypeId} {x : Operand} {at' : Array TypeId} {sz : Nat} {cl : Bool} {es : List (List C)} {m : Nat} (ht : P.underlying t = some (.slice e)) (hx : (St.mk n fr H nx).ev x = some (.c (.ro sz cl es))) (hat : at'[0]? = some t) (hn : es.length = m) : Flo P ⟨d, .call { callee := .builtin .len, args := #[x], argTypes := at' }, ty, pos, aft, g⟩ ⟨n, fr, H, nx⟩ (.lit (.int .i64 m)) :=
  Flo.lenR ht hx hat hn
theorem Y.lenS {t : TypeId} {x : Operand} {at' : Array TypeId} {a : List UInt8} (ht : P.underlying t = some .string) (hx : (St.mk n fr H nx).ev x = some (.lit (str a))) (hat : at'[0]? = some t) : Flo P ⟨d, .call { callee := .builtin .len, args := #[x], argTypes := at' }, ty, pos, aft, g⟩ ⟨n, fr, H, nx⟩ (.lit (.int .i64 a.length)) :=
  Flo.lenS ht hx hat
theorem Y.lenN {t e : TypeId} {x : Operand} {at' : Array TypeId} (ht : P.underlying t = some (.slice e)) (hx : (St.mk n fr H nx).ev x = some (.lit (.slice none 0 0))) (hat : at'[0]? = some t) : Flo P ⟨d, .call { callee := .builtin .len, args := #[x], argTypes := at' }, ty, pos, aft, g⟩ ⟨n, fr, H, nx⟩ (.lit (.int .i64 0)) :=
  Flo.lenN ht hx hat
theorem Y.lenO {t e e' : TypeId} {x : Operand} {at' : Array TypeId} {o sz : Nat} {es : List (List A)} {m : Nat} (q : Nat) (hq : H[q]? = some (o, .row e' sz es)) (ht : P.underlying t = some (.slice e)) (hx : (St.mk n fr H nx).ev x = some (.one (.obj o))) (hat : at'[0]? = some t) (hn : es.length = m) : Flo P ⟨d, .call { callee := .builtin .len, args := #[x], argTypes := at' }, ty, pos, aft, g⟩ ⟨n, fr, H, nx⟩ (.lit (.int .i64 m)) :=
  Flo.lenO q hq ht hx hat hn
theorem Y.idxR {t e : TypeId} {x y : Operand} {kd : IntKind} {sz : Nat} {cl : Bool} {es : List (List C)} {cs : List C} (i : Nat) (ht : P.underlying t = some (.slice e)) (hsz : ∀ w, (sizeOf e).run P w = .ok sz w) (hx : (St.mk n fr H nx).ev x = some (.c (.ro sz cl es))) (hy : (St.mk n fr H nx).ev y = some (.lit (.int kd i))) (hi : es[i]? = some cs) : Flo P ⟨d, .indexAddr t x y, ty, pos, aft, g⟩ ⟨n, fr, H, nx⟩ (.c (.rp cs)) :=
  Flo.idxR ht hsz hx hy hi
theorem Y.idxO {t e e' : TypeId} {x y : Operand} {kd : IntKind} {sz o : Nat} {es : List (List A)} {cs : List A} (i : Nat) (q : Nat) (hq : H[q]? = some (o, .row e' sz es)) (ht : P.underlying t = some (.slice e)) (hsz : ∀ w, (sizeOf e).run P w = .ok sz w) (hx : (St.mk n fr H nx).ev x = some (.one (.obj o))) (hy : (St.mk n fr H nx).ev y = some (.lit (.int kd i))) (hi : es[i]? = some cs) : Flo P ⟨d, .indexAddr t x y, ty, pos, aft, g⟩ ⟨n, fr, H, nx⟩ (.one (.ptr o i 0)) :=
  Flo.idxO q hq ht hsz hx hy hi
theorem Y.idxS {t : TypeId} {x y : Operand} {kd : IntKind} {a : List UInt8} {c : UInt8} (i : Nat) (ht : P.underlying t = some .string) (hx : (St.mk n fr H nx).ev x = some (.lit (str a))) (hy : (St.mk n fr H nx).ev y = some (.lit (.int kd i))) (hi : a[i]? = some c) : Flo P ⟨d, .index t x y, ty, pos, aft, g⟩ ⟨n, fr, H, nx⟩ (.lit (.int .u8 c.toNat)) :=
  Flo.idxS ht hx hy hi
theorem Y.sliceS {t : TypeId} {x : Operand} {lo hi : Option Operand} {a : List UInt8} {b c : Nat} (ht : P.underlying t = some .string) (hx : (St.mk n fr H nx).ev x = some (.lit (str a))) (hl : bnd (St.mk n fr H nx) 0 lo = some b) (hh : bnd (St.mk n fr H nx) a.length hi = some c) (h1 : b ≤ c) (h2 : c ≤ a.length) {y : List UInt8} (hy : (a.drop b).take (c - b) = y) : Flo P ⟨d, .slice t x lo hi none, ty, pos, aft, g⟩ ⟨n, fr, H, nx⟩ (.lit (str y)) :=
  by subst hy; exact Flo.sliceS ht hx hl hh h1 h2
theorem Y.sliceR {t e : TypeId} {x : Operand} {lo hi : Option Operand} {sz b c : Nat} {cl : Bool} {es : List (List C)} (ht : P.underlying t = some (.slice e)) (hsz : ∀ w, (sizeOf e).run P w = .ok sz w) (hx : (St.mk n fr H nx).ev x = some (.c (.ro sz cl es))) (hl : bnd (St.mk n fr H nx) 0 lo = some b) (hh : bnd (St.mk n fr H nx) es.length hi = some c) (h1 : b ≤ c) (h2 : c ≤ es.length) {y : List (List C)} (hy : (es.drop b).take (c - b) = y) : Flo P ⟨d, .slice t x lo hi none, ty, pos, aft, g⟩ ⟨n, fr, H, nx⟩ (.c (.ro sz false y)) :=
  by subst hy; exact Flo.sliceR ht hsz hx hl hh h1 h2
theorem E.storeB {t e : TypeId} {x y : Operand} {o j m : Nat} {cs r : List A} {v : V1} (q : Nat) (hq : H[q]? = some (o, .box e cs)) (hx : (St.mk n fr H nx).ev x = some (.one (.ptr o 0 j))) (hy : (St.mk n fr H nx).ev y = some (.v v)) (hf : v.flat = true) (hsz : ∀ w, (sizeOf t).run P w = .ok m w) (hn : v.cells.length = m) (hj : Nat.ble (j + m) cs.length = true) (hr : spliceA cs j v.cells = r) : Does P ⟨none, .store t x y, ty, pos, aft, g⟩ ⟨n, fr, H, nx⟩ (· = ⟨n, fr, H.set q (o, .box e r), nx⟩) :=
  by subst hr; exact Does.storeB q hq hx hy hf hsz hn (Nat.le_of_ble_eq_true hj)
theorem E.storeR {t e : TypeId} {x y : Operand} {o i j m sz : Nat} {es : List (List A)} {el : List A} {v : V1} (q : Nat) (hq : H[q]? = some (o, .row e sz es)) (hx : (St.mk n fr H nx).ev x = some (.one (.ptr o i j))) (hy : (St.mk n fr H nx).ev y = some (.v v)) (hf : v.flat = true) (hsz : ∀ w, (sizeOf t).run P w = .ok m w) (hn : v.cells.length = m) (hel : es[i]? = some el) (hj : j + m ≤ el.length) : Does P ⟨none, .store t x y, ty, pos, aft, g⟩ ⟨n, fr, H, nx⟩ (· = ⟨n, fr, H.set q (o, .row e sz (es.set i (spliceA el j v.cells))), nx⟩) :=
  Does.storeR q hq hx hy hf hsz hn hel hj
theorem E.box {t : TypeId} {x : Operand} {v : V1} {cs : List A} (hx : (St.mk n fr H nx).ev x = some (.v v)) (hf : v.flat = true) (hc : v.cells = cs) (hd : fits d n = true := by rfl) : Does P ⟨d, .box t x, ty, pos, aft, g⟩ ⟨n, fr, H, nx⟩ (· = ⟨n, setD d (some (.one (.ptr nx 0 0))) fr, ((nx, .box t cs) :: H), (nx + 1)⟩) :=
  by subst hc; exact Does.box hx hf hd
theorem E.alloc {t : TypeId} {z : Value} {cs : List A} (hz : ∀ w, (zeroValue t).run P w = .ok z w) (hf : ∀ x ∈ z.cells.toList, x.oneCell' = true) (hc : (z.cells.toList.map fun x => A.c (.lit x)) = cs) (hd : fits d n = true := by rfl) : Does P ⟨d, .alloc t, ty, pos, aft, g⟩ ⟨n, fr, H, nx⟩ (· = ⟨n, setD d (some (.one (.ptr nx 0 0))) fr, ((nx, .box t cs) :: H), (nx + 1)⟩) :=
  by subst hc; exact Does.alloc hz hf hd
theorem Y.build {t : TypeId} {z : Value} {pl : List (Nat × Nat)} {ps : Array (Nat × Operand)} {vs : List (Nat × V1)} {r : List A} (ht : Places P t z pl) (hp : partsOf (St.mk n fr H nx) ps.toList = some vs) (hf : vs.all (fun v => v.2.flat) = true) (hr : fillA (fun i => pl[i]?) (z.cells.toList.map fun x => .c (.lit x)) (vs.map fun v => (v.1, v.2.cells)) = some r) : Flo P ⟨d, .build t ps, ty, pos, aft, g⟩ ⟨n, fr, H, nx⟩ (.agg r) :=
  Flo.build ht hp hf hr
theorem E.buildSlice {t e : TypeId} {z : Value} {sz bytes m : Nat} {ps : Array (Nat × Operand)} {es : List (List A)} (vs : List V1) (ht : P.underlying t = some (.slice e)) (he : ElemT P e sz bytes z) (hp : partsOf (St.mk n fr H nx) ps.toList = some ((vs.zipIdx 0).map fun p => (p.2, p.1))) (hf : vs.all V1.flat = true) (hl : vs.all (fun v => v.cells.length == sz) = true) (hn : vs.length = m) (hb : m * sz ≤ 16777216) (hne : m ≠ 0) (hes : vs.map V1.cells = es) (hd : fits d n = true := by rfl) : Does P ⟨d, .buildSlice t m ps, ty, pos, aft, g⟩ ⟨n, fr, H, nx⟩ (· = ⟨n, setD d (some (.one (.obj nx))) fr, ((nx, .row e sz es) :: H), (nx + 1)⟩) :=
  by subst hes; exact Does.buildSlice ht he hp hf hl hn hb hne hd
theorem E.append {t e : TypeId} {x y : Operand} {at' : Array TypeId} {z : Value} {o sz bytes : Nat} {es news es' : List (List A)} {a' : A} (q : Nat) (hq : H[q]? = some (o, .row e sz es)) (ht : P.underlying t = some (.slice e)) (he : ElemT P e sz bytes z) (hx : (St.mk n fr H nx).ev x = some (.one (.obj o))) (hy : (St.mk n fr H nx).ev y = some (.one a')) (hh : Holds (St.mk n fr H nx) a' sz news) (hb : (es.length + news.length) * bytes ≤ 140737488355328) (hm : es.length + news.length ≤ 9223372036854775807) (hat : at' = #[t, t]) (hes : es ++ news = es') (hd : fits d n = true := by rfl) : Does P ⟨d, .call { callee := .builtin .append, args := #[x, y], argTypes := at' }, ty, pos, aft, g⟩ ⟨n, fr, H, nx⟩ (· = ⟨n, setD d (some (.one (.obj nx))) fr, ((nx, .row e sz es') :: H.eraseIdx q), (nx + 1)⟩) :=
  by subst hes; exact Does.append q hq ht he hx hy hh hb hm hat hd
theorem Y.min2 {x y : Operand} {at' : Array TypeId} {kd : IntKind} {a b : Int} (hx : (St.mk n fr H nx).ev x = some (.lit (.int kd a))) (hy : (St.mk n fr H nx).ev y = some (.lit (.int kd b))) : Flo P ⟨d, .call { callee := .builtin .min, args := #[x, y], argTypes := at' }, ty, pos, aft, g⟩ ⟨n, fr, H, nx⟩ (.lit (.int kd (if b < a then b else a))) :=
  Flo.min2 hx hy
theorem Y.max2 {x y : Operand} {at' : Array TypeId} {kd : IntKind} {a b : Int} (hx : (St.mk n fr H nx).ev x = some (.lit (.int kd a))) (hy : (St.mk n fr H nx).ev y = some (.lit (.int kd b))) : Flo P ⟨d, .call { callee := .builtin .max, args := #[x, y], argTypes := at' }, ty, pos, aft, g⟩ ⟨n, fr, H, nx⟩ (.lit (.int kd (if b > a then b else a))) :=
  Flo.max2 hx hy
theorem Y.min3 {x y z : Operand} {at' : Array TypeId} {kd : IntKind} {a b c : Int} (hx : (St.mk n fr H nx).ev x = some (.lit (.int kd a))) (hy : (St.mk n fr H nx).ev y = some (.lit (.int kd b))) (hz : (St.mk n fr H nx).ev z = some (.lit (.int kd c))) : Flo P ⟨d, .call { callee := .builtin .min, args := #[x, y, z], argTypes := at' }, ty, pos, aft, g⟩ ⟨n, fr, H, nx⟩ (.lit (.int kd (if c < (if b < a then b else a) then c else if b < a then b else a))) :=
  Flo.min3 hx hy hz
theorem Y.shrK {t yt : TypeId} {x y : Operand} {kd kd2 : IntKind} {a b : Int} (hx : (St.mk n fr H nx).ev x = some (.lit (.int kd a))) (hy : (St.mk n fr H nx).ev y = some (.lit (.int kd2 b))) (hb : 0 ≤ b) : Flo P ⟨d, .binOp .shr t x y yt, ty, pos, aft, g⟩ ⟨n, fr, H, nx⟩ (.lit (.int kd (shrK kd a b))) :=
  Flo.shrK hx hy hb
theorem Y.shlK {t yt : TypeId} {x y : Operand} {kd kd2 : IntKind} {a b : Int} (hx : (St.mk n fr H nx).ev x = some (.lit (.int kd a))) (hy : (St.mk n fr H nx).ev y = some (.lit (.int kd2 b))) (hb : 0 ≤ b) : Flo P ⟨d, .binOp .shl t x y yt, ty, pos, aft, g⟩ ⟨n, fr, H, nx⟩ (.lit (.int kd (shlK kd a b))) :=
  Flo.shlK hx hy hb
theorem Y.negK {t : TypeId} {x : Operand} {kd : IntKind} {a : Int} (hx : (St.mk n fr H nx).ev x = some (.lit (.int kd a))) : Flo P ⟨d, .unOp .neg t x, ty, pos, aft, g⟩ ⟨n, fr, H, nx⟩ (.lit (.int kd (kd.wrap (-a)))) :=
  Flo.negK hx
theorem Y.convII {s t : TypeId} {x : Operand} {kd kd2 : IntKind} {ds : TypeDesc} {a : Int} (hs : P.underlying s = some ds) (ht : P.underlying t = some (.int kd)) (hx : (St.mk n fr H nx).ev x = some (.lit (.int kd2 a))) : Flo P ⟨d, .convert s t x, ty, pos, aft, g⟩ ⟨n, fr, H, nx⟩ (.lit (.int kd (kd.wrap a))) :=
  Flo.convII hs ht hx
theorem Y.convSS {s t : TypeId} {x : Operand} {ds : TypeDesc} {a : List UInt8} (hs : P.underlying s = some ds) (ht : P.underlying t = some .string) (hx : (St.mk n fr H nx).ev x = some (.lit (str a))) : Flo P ⟨d, .convert s t x, ty, pos, aft, g⟩ ⟨n, fr, H, nx⟩ (.lit (str a)) :=
  Flo.convSS hs ht hx
theorem E.strBytes {s t e : TypeId} {x : Operand} {ds : TypeDesc} {a : List UInt8} (hs : P.underlying s = some ds) (ht : P.underlying t = some (.slice e)) (he : P.underlying e = some (.int .u8)) (hx : (St.mk n fr H nx).ev x = some (.lit (str a))) (hl : a.length ≤ 4294967296) (hd : fits d n = true := by rfl) : Does P ⟨d, .convert s t x, ty, pos, aft, g⟩ ⟨n, fr, H, nx⟩ (· = ⟨n, setD d (some (.one (.obj nx))) fr, ((nx, .row e 1 (rowOf (encK .u8) (nums a))) :: H), (nx + 1)⟩) :=
  Does.strBytes hs ht he hx hl hd
theorem Y.bytesStr {s t e e' : TypeId} {x : Operand} {o : Nat} {a : List Int} (q : Nat) (hq : H[q]? = some (o, .row e' 1 (rowOf (encK .u8) a))) (hs : P.underlying s = some (.slice e)) (ht : P.underlying t = some .string) (he : P.underlying e = some (.int .u8)) (hx : (St.mk n fr H nx).ev x = some (.one (.obj o))) : Flo P ⟨d, .convert s t x, ty, pos, aft, g⟩ ⟨n, fr, H, nx⟩ (.lit (str (ofNums a))) :=
  Flo.bytesStr q hq hs ht he hx
theorem Y.makeFunc {f : FuncId} {cs : Array Operand} {os : List Nat} (hc : capsOf (St.mk n fr H nx) cs.toList = some os) : Flo P ⟨d, .makeFunc (.func f) #[] cs, ty, pos, aft, g⟩ ⟨n, fr, H, nx⟩ (.one (.fn f os)) :=
  Flo.makeFunc hc
theorem E.makeMap {t : TypeId} {κ υ : Type} (K : TypeDesc) (E : TypeId) (ek : κ → Value) (ev : υ → V1)  (hd : fits d n = true := by rfl) : Does P ⟨d, .makeMap t none, ty, pos, aft, g⟩ ⟨n, fr, H, nx⟩ (· = ⟨n, setD d (some (.one (.obj nx))) fr, ((nx, .map K E (mapOf ek ev ([] : List (κ × υ)))) :: H), (nx + 1)⟩) :=
  Does.makeMap hd
theorem Y.lookup1 {t kt et : TypeId} {K : TypeDesc} {E : TypeId} {κ υ : Type} [DecidableEq κ] {ek : κ → Value} {ev : υ → V1} {ml : List (κ × υ)} {o : Nat} {kk : κ} {x y : Operand} {zz : υ} {zv : Value} (q : Nat) (hq : H[q]? = some (o, .map K E (mapOf ek ev ml))) (ht : P.underlying t = some (.map kt et)) (hK : P.underlying kt = some K) (hek : KeyEnc K ek) (hx : (St.mk n fr H nx).ev x = some (.one (.obj o))) (hy : (St.mk n fr H nx).ev y = some (.lit (ek kk))) (hz : ∀ w, (zeroValue et).run P w = .ok zv w) (hzz : ∀ M ι, RepV1 M ι (ev zz) zv) : Flo P ⟨d, .lookup t x y false, ty, pos, aft, g⟩ ⟨n, fr, H, nx⟩ (.v (ev ((mget ml kk).getD zz))) :=
  Flo.lookup1 q hq ht hK hek hx hy hz hzz
theorem Y.lookup2 {t kt et : TypeId} {K : TypeDesc} {E : TypeId} {κ υ : Type} [DecidableEq κ] {ek : κ → Value} {ev : υ → V1} {ml : List (κ × υ)} {o : Nat} {kk : κ} {x y : Operand} {zz : υ} {zv : Value} (q : Nat) (hq : H[q]? = some (o, .map K E (mapOf ek ev ml))) (ht : P.underlying t = some (.map kt et)) (hK : P.underlying kt = some K) (hek : KeyEnc K ek) (hx : (St.mk n fr H nx).ev x = some (.one (.obj o))) (hy : (St.mk n fr H nx).ev y = some (.lit (ek kk))) (hz : ∀ w, (zeroValue et).run P w = .ok zv w) (hzz : ∀ M ι, RepV1 M ι (ev zz) zv) : Flo P ⟨d, .lookup t x y true, ty, pos, aft, g⟩ ⟨n, fr, H, nx⟩ (.tup [ev ((mget ml kk).getD zz), .one (.c (.lit (.bool (mget ml kk).isSome)))]) :=
  Flo.lookup2 q hq ht hK hek hx hy hz hzz
theorem Y.lenM {t kt et : TypeId} {at' : Array TypeId} {K : TypeDesc} {E : TypeId} {κ υ : Type} {ek : κ → Value} {ev : υ → V1} {ml : List (κ × υ)} {o : Nat} {x : Operand} (q : Nat) (hq : H[q]? = some (o, .map K E (mapOf ek ev ml))) (ht : P.underlying t = some (.map kt et)) (hx : (St.mk n fr H nx).ev x = some (.one (.obj o))) (hat : at'[0]? = some t) : Flo P ⟨d, .call { callee := .builtin .len, args := #[x], argTypes := at' }, ty, pos, aft, g⟩ ⟨n, fr, H, nx⟩ (.lit (.int .i64 ml.length)) :=
  Flo.lenM q hq ht hx hat
theorem E.mapUpdate {t kt et : TypeId} {K : TypeDesc} {E : TypeId} {κ υ : Type} [DecidableEq κ] {ek : κ → Value} {ev : υ → V1} {ml : List (κ × υ)} {o : Nat} {kk : κ} {x y z : Operand} {vv : υ} (q : Nat) (hq : H[q]? = some (o, .map K E (mapOf ek ev ml))) (ht : P.underlying t = some (.map kt et)) (hK : P.underlying kt = some K) (hek : KeyEnc K ek) (hx : (St.mk n fr H nx).ev x = some (.one (.obj o))) (hy : (St.mk n fr H nx).ev y = some (.lit (ek kk))) (hz : (St.mk n fr H nx).ev z = some (.v (ev vv))) (hlen : ml.length + 1 ≤ 4294967296) : Does P ⟨none, .mapUpdate t x y z, ty, pos, aft, g⟩ ⟨n, fr, H, nx⟩ (· = ⟨n, fr, H.set q (o, .map K E (mapOf ek ev (mset ml kk vv))), nx⟩) :=
  Does.mapUpdate q hq ht hK hek hx hy hz (by unfold maxLen; omega)
theorem E.insert {t kt et : TypeId} {K : TypeDesc} {E : TypeId} {κ υ : Type} [DecidableEq κ] {ek : κ → Value} {ev : υ → V1} {ml : List (κ × υ)} {o : Nat} {kk : κ} {x y z : Operand} {vv : υ} (q : Nat) (hq : H[q]? = some (o, .map K E (mapOf ek ev ml))) (ht : P.underlying t = some (.map kt et)) (hK : P.underlying kt = some K) (hek : KeyEnc K ek) (hx : (St.mk n fr H nx).ev x = some (.one (.obj o))) (hy : (St.mk n fr H nx).ev y = some (.lit (ek kk))) (hz : (St.mk n fr H nx).ev z = some (.v (ev vv))) (hlen : ml.length + 1 ≤ 4294967296) : Does P ⟨none, .insert t x y z, ty, pos, aft, g⟩ ⟨n, fr, H, nx⟩ (· = ⟨n, fr, H.set q (o, .map K E (mapOf ek ev (mset ml kk vv))), nx⟩) :=
  Does.insert q hq ht hK hek hx hy hz (by unfold maxLen; omega)
theorem E.delete {t kt et : TypeId} {at' : Array TypeId} {K : TypeDesc} {E : TypeId} {κ υ : Type} [DecidableEq κ] {ek : κ → Value} {ev : υ → V1} {ml : List (κ × υ)} {o : Nat} {kk : κ} {x y : Operand} (q : Nat) (hq : H[q]? = some (o, .map K E (mapOf ek ev ml))) (ht : P.underlying t = some (.map kt et)) (hK : P.underlying kt = some K) (hek : KeyEnc K ek) (hx : (St.mk n fr H nx).ev x = some (.one (.obj o))) (hy : (St.mk n fr H nx).ev y = some (.lit (ek kk))) (hat : at'[0]? = some t) (hd : fits d n = true := by rfl) : Does P ⟨d, .call { callee := .builtin .delete, args := #[x, y], argTypes := at' }, ty, pos, aft, g⟩ ⟨n, fr, H, nx⟩ (· = ⟨n, setD d (some (.tup [])) fr, H.set q (o, .map K E (mapOf ek ev (mdel ml kk))), nx⟩) :=
  Does.delete q hq ht hK hek hx hy hat hd
theorem E.cutO {t e e' : TypeId} {x : Operand} {lo hi mx : Option Operand} {o sz b c : Nat} {es y : List (List A)} (q : Nat) (hq : H[q]? = some (o, .row e' sz es)) (ht : P.underlying t = some (.slice e)) (hsz : ∀ w, (sizeOf e).run P w = .ok sz w) (hx : (St.mk n fr H nx).ev x = some (.one (.obj o))) (hl : bnd (St.mk n fr H nx) 0 lo = some b) (hh : bnd (St.mk n fr H nx) es.length hi = some c) (hm : mx = none ∨ ∃ y, mx = some y ∧ hi ≠ none ∧ bnd (St.mk n fr H nx) 0 (some y) = some c) (h1 : b ≤ c) (h2 : c ≤ es.length) (hy : (es.drop b).take (c - b) = y) (hd : fits d n = true := by rfl) : Does P ⟨d, .slice t x lo hi mx, ty, pos, aft, g⟩ ⟨n, fr, H, nx⟩ (· = ⟨n, setD d (some (.one (.obj nx))) fr, ((nx, .row e' sz y) :: H.eraseIdx q), (nx + 1)⟩) :=
  by subst hy; exact Does.cutO q hq ht hsz hx hl hh hm h1 h2 hd
theorem Y.subO {t e e' : TypeId} {x : Operand} {lo hi : Option Operand} {o sz b c : Nat} {es : List (List A)} (q : Nat) (hq : H[q]? = some (o, .row e' sz es)) (ht : P.underlying t = some (.slice e)) (hsz : ∀ w, (sizeOf e).run P w = .ok sz w) (hx : (St.mk n fr H nx).ev x = some (.one (.obj o))) (hl : bnd (St.mk n fr H nx) 0 lo = some b) (hh : bnd (St.mk n fr H nx) es.length hi = some c) (h1 : b ≤ c) (h2 : c ≤ es.length) {m : Nat} (hm : c - b = m) : Flo P ⟨d, .slice t x lo hi none, ty, pos, aft, g⟩ ⟨n, fr, H, nx⟩ (.one (.sub o b m)) :=
  by subst hm; exact Flo.subO q hq ht hsz hx hl hh h1 h2
theorem Y.lenSub {t e : TypeId} {x : Operand} {at' : Array TypeId} {o i m : Nat} (ht : P.underlying t = some (.slice e)) (hx : (St.mk n fr H nx).ev x = some (.one (.sub o i m))) (hat : at'[0]? = some t) : Flo P ⟨d, .call { callee := .builtin .len, args := #[x], argTypes := at' }, ty, pos, aft, g⟩ ⟨n, fr, H, nx⟩ (.lit (.int .i64 m)) :=
  Flo.lenSub ht hx hat
theorem Y.idxSub {t e e' : TypeId} {x y : Operand} {kd : IntKind} {i m sz o : Nat} {es : List (List A)} (j : Nat) (q : Nat) (hq : H[q]? = some (o, .row e' sz es)) (ht : P.underlying t = some (.slice e)) (hsz : ∀ w, (sizeOf e).run P w = .ok sz w) (hx : (St.mk n fr H nx).ev x = some (.one (.sub o i m))) (hy : (St.mk n fr H nx).ev y = some (.lit (.int kd j))) (hj : j < m) : Flo P ⟨d, .indexAddr t x y, ty, pos, aft, g⟩ ⟨n, fr, H, nx⟩ (.one (.ptr o (i + j) 0)) :=
  Flo.idxSub q hq ht hsz hx hy hj
theorem E.clearSub {t e : TypeId} {x : Operand} {at' : Array TypeId} {z : Value} {o i m sz bytes : Nat} {es y : List (List A)} (q : Nat) (hq : H[q]? = some (o, .row e sz es)) (ht : P.underlying t = some (.slice e)) (he : ElemT P e sz bytes z) (hx : (St.mk n fr H nx).ev x = some (.one (.sub o i m))) (him : i + m ≤ es.length) (hat : at'[0]? = some t) (hy : es.take i ++ List.replicate m (zeroA z) ++ es.drop (i + m) = y) (hd : fits d n = true := by rfl) : Does P ⟨d, .call { callee := .builtin .clear, args := #[x], argTypes := at' }, ty, pos, aft, g⟩ ⟨n, fr, H, nx⟩ (· = ⟨n, setD d (some (.tup [])) fr, H.set q (o, .row e sz y), nx⟩) :=
  by subst hy; exact Does.clearSub q hq ht he hx him hat hd
theorem Y.sliceR3 {t e : TypeId} {x z : Operand} {lo hi : Option Operand} {sz b c : Nat} {cl : Bool} {es : List (List C)} (ht : P.underlying t = some (.slice e)) (hsz : ∀ w, (sizeOf e).run P w = .ok sz w) (hx : (St.mk n fr H nx).ev x = some (.c (.ro sz cl es))) (hl : bnd (St.mk n fr H nx) 0 lo = some b) (hh : bnd (St.mk n fr H nx) es.length hi = some c) (hne : hi ≠ none) (hm : bnd (St.mk n fr H nx) 0 (some z) = some c) (h1 : b ≤ c) (h2 : c ≤ es.length) {y : List (List C)} (hy : (es.drop b).take (c - b) = y) : Flo P ⟨d, .slice t x lo hi (some z), ty, pos, aft, g⟩ ⟨n, fr, H, nx⟩ (.c (.ro sz false y)) :=
  by subst hy; exact Flo.sliceR3 ht hsz hx hl hh hne hm h1 h2
theorem E.makeSlice {t e : TypeId} {x y : Operand} {kd kd2 : IntKind} {z : Value} {sz bytes : Nat} {es : List (List A)} (m : Nat) (ht : P.underlying t = some (.slice e)) (he : ElemT P e sz bytes z) (hx : (St.mk n fr H nx).ev x = some (.lit (.int kd m))) (hy : (St.mk n fr H nx).ev y = some (.lit (.int kd2 m))) (hb : m * bytes ≤ 281474976710656) (hm : m ≤ 4294967296) (hes : List.replicate m (zeroA z) = es) (hd : fits d n = true := by rfl) : Does P ⟨d, .makeSlice t x y, ty, pos, aft, g⟩ ⟨n, fr, H, nx⟩ (· = ⟨n, setD d (some (.one (.obj nx))) fr, ((nx, .row e sz es) :: H), (nx + 1)⟩) :=
  by subst hes; exact Does.makeSlice ht he hx hy hb hm hd
theorem E.rangeS {t : TypeId} {x : Operand} {a : List UInt8} (ht : P.underlying t = some .string) (hx : (St.mk n fr H nx).ev x = some (.lit (str a))) (hd : fits d n = true := by rfl) : Does P ⟨d, .range t x, ty, pos, aft, g⟩ ⟨n, fr, H, nx⟩ (· = ⟨n, setD d (some (.one (.obj nx))) fr, ((nx, .iter a 0) :: H), (nx + 1)⟩) :=
  Does.rangeS ht hx hd
theorem E.nextT {x : Operand} {o i : Nat} {a : List UInt8} (q : Nat) (hq : H[q]? = some (o, .iter a i)) (hx : (St.mk n fr H nx).ev x = some (.one (.obj o))) (hlt : i < a.length) (hd : fits d n = true := by rfl) : Does P ⟨d, .next x true, ty, pos, aft, g⟩ ⟨n, fr, H, nx⟩ (· = ⟨n, setD d (some (.tup [.one (.c (.lit (.bool true))), .one (.c (.lit (.int .i64 i))), .one (.c (.lit (.int .i32 (runeAt a i).1)))])) fr, H.set q (o, .iter a (i + (runeAt a i).2)), nx⟩) :=
  Does.nextT q hq hx hlt hd
theorem Y.nextF {x : Operand} {o i : Nat} {a : List UInt8} (q : Nat) (hq : H[q]? = some (o, .iter a i)) (hx : (St.mk n fr H nx).ev x = some (.one (.obj o))) (hlt : ¬ i < a.length) : Flo P ⟨d, .next x true, ty, pos, aft, g⟩ ⟨n, fr, H, nx⟩ (.tup [.one (.c (.lit (.bool false)))]) :=
  Flo.nextF q hq hx hlt
theorem Y.idxA {t e : TypeId} {x y : Operand} {kd : IntKind} {o j sz n1 m : Nat} (i : Nat) (ht : P.underlying t = some (.array n1 e)) (hsz : ∀ w, (sizeOf e).run P w = .ok sz w) (hx : (St.mk n fr H nx).ev x = some (.one (.ptr o 0 j))) (hy : (St.mk n fr H nx).ev y = some (.lit (.int kd i))) (hi : i < n1) (hm : j + i * sz = m) : Flo P ⟨d, .indexAddr t x y, ty, pos, aft, g⟩ ⟨n, fr, H, nx⟩ (.one (.ptr o 0 m)) :=
  Flo.idxA ht hsz hx hy hi hm
theorem E.buildSlice0 {t e : TypeId} {sz : Nat} (ht : P.underlying t = some (.slice e)) (hsz : ∀ w, (sizeOf e).run P w = .ok sz w) (hd : fits d n = true := by rfl) : Does P ⟨d, .buildSlice t 0 #[], ty, pos, aft, g⟩ ⟨n, fr, H, nx⟩ (· = ⟨n, setD d (some (.one (.obj nx))) fr, ((nx, .row e sz []) :: H), (nx + 1)⟩) :=
  Does.buildSlice0 ht hsz hd
theorem Y.runeStr {s t : TypeId} {x : Operand} {kd : IntKind} {a : Int} (hs : P.underlying s = some (.int kd)) (ht : P.underlying t = some .string) (hx : (St.mk n fr H nx).ev x = some (.lit (.int kd a))) : Flo P ⟨d, .convert s t x, ty, pos, aft, g⟩ ⟨n, fr, H, nx⟩ (.lit (str (runeStr a))) :=
  Flo.runeStr hs ht hx
theorem Y.ext2 {f : FuncId} {x y : Operand} {at' : Array TypeId} {u v r : Value} (h : ExtV P f #[u, v] r) (hx : (St.mk n fr H nx).ev x = some (.lit u)) (hy : (St.mk n fr H nx).ev y = some (.lit v)) : Flo P ⟨d, .call { callee := .value (.func f), args := #[x, y], argTypes := at' }, ty, pos, aft, g⟩ ⟨n, fr, H, nx⟩ (.lit r) :=
  Flo.ext2 h hx hy
theorem Y.eqlPN {t e yt : TypeId} {x y : Operand} (ht : P.underlying t = some (.pointer e)) (hx : NonNil (St.mk n fr H nx) x) (hy : (St.mk n fr H nx).ev y = some (.lit (.pointer none))) : Flo P ⟨d, .binOp .eql t x y yt, ty, pos, aft, g⟩ ⟨n, fr, H, nx⟩ (.lit (.bool false)) :=
  Flo.eqlPN ht hx hy
theorem Y.eqlNN {t e yt : TypeId} {x y : Operand} (ht : P.underlying t = some (.pointer e)) (hx : (St.mk n fr H nx).ev x = some (.lit (.pointer none))) (hy : (St.mk n fr H nx).ev y = some (.lit (.pointer none))) : Flo P ⟨d, .binOp .eql t x y yt, ty, pos, aft, g⟩ ⟨n, fr, H, nx⟩ (.lit (.bool true)) :=
  Flo.eqlNN ht hx hy
theorem Y.neqPN {t e yt : TypeId} {x y : Operand} (ht : P.underlying t = some (.pointer e)) (hx : NonNil (St.mk n fr H nx) x) (hy : (St.mk n fr H nx).ev y = some (.lit (.pointer none))) : Flo P ⟨d, .binOp .neq t x y yt, ty, pos, aft, g⟩ ⟨n, fr, H, nx⟩ (.lit (.bool true)) :=
  Flo.neqPN ht hx hy
theorem Y.neqNN {t e yt : TypeId} {x y : Operand} (ht : P.underlying t = some (.pointer e)) (hx : (St.mk n fr H nx).ev x = some (.lit (.pointer none))) (hy : (St.mk n fr H nx).ev y = some (.lit (.pointer none))) : Flo P ⟨d, .binOp .neq t x y yt, ty, pos, aft, g⟩ ⟨n, fr, H, nx⟩ (.lit (.bool false)) :=
  Flo.neqNN ht hx hy
theorem R.nilS {t e yt : TypeId} {x y : Operand} {sz : Nat} {cl : Bool} {es : List (List C)} (hx : (St.mk n fr H nx).ev x = some (.c (.ro sz cl es))) (ht : P.underlying t = some (.slice e)) (hy : (St.mk n fr H nx).ev y = some (.lit (.slice none 0 0))) (hg : g = none) (k : ∀ b, (b = true → es = []) → TOps P ops l ⟨n, setD d (some (.lit (.bool b))) fr, H, nx⟩ Q ro) (hd : fits d n = true := by rfl) :
    TOps P ops (⟨d, .binOp .eql t x y yt, ty, pos, aft, g⟩ :: l) ⟨n, fr, H, nx⟩ Q ro :=
  TOps.gd (Does.nilS hx ht hy hd) (.inl hg) (fun s ⟨b, hb, e⟩ => e ▸ k b hb) rfl
theorem rowOf_set {α : Type} {f : α → List C} {l : List α} {i : Nat} {x : α} : (rowOf f l).set i ((f x).map A.c) = rowOf f (l.set i x) := by simp [rowOf, List.map_set]
theorem E.storeT {α : Type} {f : α → List C} {l : List α} {el : α} {t e : TypeId} {x y : Operand} {o i j m sz : Nat} {v : V1} (z : α) (q : Nat) (hq : H[q]? = some (o, .row e sz (rowOf f l))) (hx : (St.mk n fr H nx).ev x = some (.one (.ptr o i j))) (hy : (St.mk n fr H nx).ev y = some (.v v)) (hf : v.flat = true) (hsz : ∀ w, (sizeOf t).run P w = .ok m w) (hn : v.cells.length = m) (hel : (rowOf f l)[i]? = some ((f el).map A.c)) (hj : Nat.ble (j + m) ((f el).map A.c).length = true) (hr : spliceA ((f el).map A.c) j v.cells = (f z).map A.c) :
    Does P ⟨none, .store t x y, ty, pos, aft, g⟩ ⟨n, fr, H, nx⟩ (· = ⟨n, fr, H.set q (o, .row e sz (rowOf f (l.set i z))), nx⟩) := by
  have h := E.storeR (ty := ty) (pos := pos) (aft := aft) (g := g) (P := P) q hq hx hy hf hsz hn hel (Nat.le_of_ble_eq_true hj)
  rw [hr, rowOf_set] at h
  exact h
end
end Go.Fl
