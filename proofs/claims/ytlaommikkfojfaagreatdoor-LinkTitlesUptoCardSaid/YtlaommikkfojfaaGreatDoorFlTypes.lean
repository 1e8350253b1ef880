/- The program's plain types, as Lean's own, and their cells. -/
import Derived.Test.YtlaommikkfojfaaGreatDoorFlPure
namespace Go.Fl
open Go
/-- A value of a property. -/
inductive PVal where
  | mk (kind int to : Int) (text : Bytes) (items : List PVal)
def PVal.kind : PVal → Int | ⟨k, _, _, _, _⟩ => k
def PVal.int : PVal → Int | ⟨_, k, _, _, _⟩ => k
def PVal.to : PVal → Int | ⟨_, _, k, _, _⟩ => k
def PVal.text : PVal → Bytes | ⟨_, _, _, t, _⟩ => t
def PVal.items : PVal → List PVal | ⟨_, _, _, _, l⟩ => l
mutual
def encV0 : PVal → List C
  | ⟨k, i, t, s, l⟩ => [.lit (.int .i64 k), .lit (.int .i64 i), .lit (.int .i64 t), .lit (str s), .ro 5 false (encVs l)]
def encVs : List PVal → List (List C)
  | [] => []
  | v :: l => encV0 v :: encVs l
end
def encItems (v : PVal) : List (List C) := encVs v.items
def encV (v : PVal) : List C := [.lit (.int .i64 v.kind), .lit (.int .i64 v.int), .lit (.int .i64 v.to), .lit (str v.text), .ro 5 false (encItems v)]
theorem encV_eq (v : PVal) : encV0 v = encV v := by cases v; rfl
theorem encVs_eq : ∀ l : List PVal, encVs l = l.map encV
  | [] => rfl
  | v :: l => by rw [encVs, encVs_eq l, encV_eq]; rfl
theorem encItems_eq (v : PVal) : encItems v = v.items.map encV := encVs_eq _
theorem Weak.itemsS {n nx : Nat} {fr : Fr} {H : List (Nat × Ob)} {sz : Nat} {cl : Bool} {v : PVal} (t : Nat) (ht : (St.mk n fr H nx).get t = some (.c (.ro sz cl (encItems v)))) : Weak ⟨n, fr, H, nx⟩ ((St.mk n fr H nx).set (some t) (.c (.ro sz cl (v.items.map encV)))) := by
  intro G M ι a w hi
  refine ⟨M, ι, hi.core, fun k x hk => ?_, hi.size, hi.defers, hi.M0, hi.ι0, hi.kept, hi.own, hi.past⟩
  simp only [St.set, setD, look] at hk
  cases hb : Nat.beq t k with
  | true =>
    have : t = k := Nat.eq_of_beq_eq_true hb
    subst this
    rw [hb] at hk
    simp only [Option.some.injEq] at hk; subst hk
    rw [← encItems_eq]
    exact hi.fr t _ ht
  | false => rw [hb] at hk; exact hi.fr k x hk
theorem encItems_length (v : PVal) : (encItems v).length = v.items.length := by rw [encItems_eq]; simp
theorem items_get {v x : PVal} {i : Nat} (h : v.items[i]? = some x) : (encItems v)[i]? = some (encV x) := by rw [encItems_eq]; exact map_get h
structure PProp where
  name : Bytes
  value : PVal
def encP (p : PProp) : List C := [.lit (str p.name), .lit (.int .i64 p.value.kind), .lit (.int .i64 p.value.int), .lit (.int .i64 p.value.to), .lit (str p.value.text), .ro 5 false (encItems p.value)]
structure Block where
  id : Int
  parent : Int
  kids : List Int
  text : Bytes
  props : List PProp
def encB (b : Block) : List C := [.lit (.int .i64 b.id), .lit (.int .i64 b.parent), .ro 1 false (b.kids.map encI), .lit (str b.text), .ro 6 false (b.props.map encP)]
/-- An argument of a call. -/
def argS (cs : List C) : V1 := .agg (cs.map .c)
def argL {α : Type} (sz : Nat) (f : α → List C) (l : List α) : V1 := .one (.c (.ro sz false (l.map f)))
end Go.Fl
