/- Words for proofs over the program: values that are closed (they never change), objects that a call has made, and what a state of a frame and its objects means of the model's memory. No condition: lemmas alone. -/
import Derived.WalkKit
import Derived.KernelRfl
import Derived.Deep.LoopGhost
import Derived.MapKept
namespace Go.Fl

abbrev Mem := Nat → Nat → Option Value
abbrev Iota := Nat → Option (Value × Nat)

inductive C where
  | lit (v : Value)
  | ro (sz : Nat) (cl : Bool) (es : List (List C))
  | rp (cs : List C)

inductive A where
  | c (x : C)
  | obj (o : Nat)
  | ptr (o i j : Nat)
  | fn (f : FuncId) (caps : List Nat)
  | sub (o i n : Nat)

inductive V1 where
  | one (a : A)
  | agg (as : List A)

inductive V where
  | v (x : V1)
  | tup (xs : List V1)

abbrev Fr := List (Nat × Option V)
/-- A range over a function: the frame that its rounds begin with. -/
structure Lp where
  n : Nat
  fr : Fr
  ps : List Nat
  assign : Code
  body : Code
inductive Ob where
  | row (e : TypeId) (sz : Nat) (es : List (List A))
  | box (e : TypeId) (cs : List A)
  | map (K : TypeDesc) (E : TypeId) (es : List (Value × V1))
  | iter (s : List UInt8) (pos : Nat)
  | loop (p : Lp) (j : Option Code)

structure St where
  n : Nat
  fr : Fr
  H : List (Nat × Ob)
  nx : Nat

abbrev V.one (a : A) : V := .v (.one a)
abbrev V.agg (as : List A) : V := .v (.agg as)
abbrev V.c (x : C) : V := .v (.one (.c x))
abbrev V.lit (x : Value) : V := .v (.one (.c (.lit x)))

def All2 {α β : Type} (R : α → β → Prop) : List α → List β → Prop
  | [], [] => True
  | a :: as, b :: bs => R a b ∧ All2 R as bs
  | _, _ => False

section
variable {α β : Type} {R R' : α → β → Prop}
theorem All2.len : ∀ {as : List α} {bs : List β}, All2 R as bs → as.length = bs.length
  | [], [], _ => rfl
  | _ :: _, _ :: _, h => by simp [All2.len h.2]
  | [], _ :: _, h => h.elim
  | _ :: _, [], h => h.elim
theorem All2.mono (hr : ∀ a b, R a b → R' a b) : ∀ {as : List α} {bs : List β}, All2 R as bs → All2 R' as bs
  | [], [], _ => trivial
  | _ :: _, _ :: _, h => ⟨hr _ _ h.1, All2.mono hr h.2⟩
  | [], _ :: _, h => h.elim
  | _ :: _, [], h => h.elim
theorem All2.get : ∀ {as : List α} {bs : List β}, All2 R as bs → ∀ {i : Nat} {a : α}, as[i]? = some a → ∃ b, bs[i]? = some b ∧ R a b
  | a :: as, b :: bs, h, 0, x, hx => ⟨b, rfl, by simp at hx; exact hx ▸ h.1⟩
  | _ :: _, _ :: _, h, i + 1, x, hx => by simpa using All2.get h.2 (i := i) (by simpa using hx)
  | [], [], _, i, x, hx => by simp at hx
  | [], _ :: _, h, _, _, _ => h.elim
  | _ :: _, [], h, _, _, _ => h.elim
theorem All2.append : ∀ {as : List α} {bs : List β} {as' : List α} {bs' : List β}, All2 R as bs → All2 R as' bs' → All2 R (as ++ as') (bs ++ bs')
  | [], [], _, _, _, h => h
  | _ :: _, _ :: _, _, _, h, h' => ⟨h.1, All2.append h.2 h'⟩
  | [], _ :: _, _, _, h, _ => h.elim
  | _ :: _, [], _, _, h, _ => h.elim
theorem All2.drop : ∀ {as : List α} {bs : List β} (k : Nat), All2 R as bs → All2 R (as.drop k) (bs.drop k)
  | _, _, 0, h => h
  | [], [], _ + 1, _ => trivial
  | _ :: _, _ :: _, k + 1, h => All2.drop k h.2
  | [], _ :: _, _ + 1, h => h.elim
  | _ :: _, [], _ + 1, h => h.elim
theorem All2.take : ∀ {as : List α} {bs : List β} (k : Nat), All2 R as bs → All2 R (as.take k) (bs.take k)
  | _, _, 0, _ => by simp [All2]
  | [], [], _ + 1, _ => trivial
  | _ :: _, _ :: _, k + 1, h => ⟨h.1, All2.take k h.2⟩
  | [], _ :: _, _ + 1, h => h.elim
  | _ :: _, [], _ + 1, h => h.elim
theorem All2.set : ∀ {as : List α} {bs : List β} {a : α} {b : β} (k : Nat), All2 R as bs → R a b → All2 R (as.set k a) (bs.set k b)
  | [], [], _, _, _, _, _ => trivial
  | _ :: _, _ :: _, _, _, 0, h, hr => ⟨hr, h.2⟩
  | _ :: _, _ :: _, _, _, k + 1, h, hr => ⟨h.1, All2.set k h.2 hr⟩
  | [], _ :: _, _, _, _, h, _ => h.elim
  | _ :: _, [], _, _, _, h, _ => h.elim
theorem All2.of_get : ∀ {as : List α} {bs : List β}, as.length = bs.length → (∀ (i : Nat) (a : α) (b : β), as[i]? = some a → bs[i]? = some b → R a b) → All2 R as bs
  | [], [], _, _ => trivial
  | a :: as, b :: bs, h, hr => ⟨hr 0 a b rfl rfl, All2.of_get (by simpa using h) fun i x y hx hy => hr (i + 1) x y (by simpa using hx) (by simpa using hy)⟩
  | [], _ :: _, h, _ => by simp at h
  | _ :: _, [], h, _ => by simp at h
end

/-- A closed value stands for a value, over sealed memory. -/
inductive RepC (M : Mem) : C → Value → Prop
  | lit (v : Value) : RepC M (.lit v) v
  | nil (sz : Nat) (cl : Bool) (p : Option Addr) (c : Nat) (hp : p = none → c = 0) (hcl : cl = true → c = 0) (hm : c ≤ maxLen) : RepC M (.ro sz cl []) (.slice p 0 c)
  | ro (sz : Nat) (cl : Bool) (es : List (List C)) (b off c : Nat) (u : Nat → Nat → Value) (hne : es ≠ []) (hsz : ∀ e ∈ es, e.length = sz)
      (hc : es.length ≤ c) (hm : c ≤ maxLen) (hcl : cl = true → c = es.length)
      (hu : ∀ i e j x, es[i]? = some e → e[j]? = some x → M b (off + (i * sz + j)) = some (u i j))
      (hr : ∀ i e j x, es[i]? = some e → e[j]? = some x → RepC M x (u i j)) :
      RepC M (.ro sz cl es) (.slice (some ⟨b, off, none⟩) es.length c)
  | rp (cs : List C) (b off : Nat) (u : Nat → Value) (hu : ∀ j x, cs[j]? = some x → M b (off + j) = some (u j)) (hr : ∀ j x, cs[j]? = some x → RepC M x (u j)) :
      RepC M (.rp cs) (.pointer (some ⟨b, off, none⟩))

def MLe (M M' : Mem) : Prop := ∀ b k u, M b k = some u → M' b k = some u
def ILe (ι ι' : Iota) : Prop := ∀ o x, ι o = some x → ι' o = some x
theorem MLe.refl (M : Mem) : MLe M M := fun _ _ _ h => h
theorem MLe.trans {a b c : Mem} (h : MLe a b) (k : MLe b c) : MLe a c := fun _ _ _ x => k _ _ _ (h _ _ _ x)
theorem ILe.refl (ι : Iota) : ILe ι ι := fun _ _ h => h
theorem ILe.trans {a b c : Iota} (h : ILe a b) (k : ILe b c) : ILe a c := fun _ _ x => k _ _ (h _ _ x)

theorem RepC.mono {M M' : Mem} (hM : MLe M M') {x : C} {v : Value} (h : RepC M x v) : RepC M' x v := by
  induction h with
  | lit v => exact .lit v
  | nil sz cl p c hp hcl hm => exact .nil sz cl p c hp hcl hm
  | ro sz cl es b off c u hne hsz hc hm hcl hu hr ih => exact .ro sz cl es b off c u hne hsz hc hm hcl (fun i e j x h1 h2 => hM _ _ _ (hu i e j x h1 h2)) ih
  | rp cs b off u hu hr ih => exact .rp cs b off u (fun j x h1 => hM _ _ _ (hu j x h1)) ih

/-- The block that a value's own memory is. -/
def blk : Value → Option Nat
  | .slice (some a) _ _ => some a.block
  | .pointer (some a) => some a.block
  | .map (some r) => some r
  | .func (.yield l) _ _ => some l
  | _ => none

/-- Where in its block a value's own memory begins. -/
def offV : Value → Nat
  | .slice (some a) _ _ => a.off
  | .pointer (some a) => a.off
  | _ => 0
@[simp] theorem offV_slice (b o : Nat) (s : Option Nat) (n c : Nat) : offV (.slice (some ⟨b, o, s⟩) n c) = o := rfl
@[simp] theorem offV_ptr (b o : Nat) (s : Option Nat) : offV (.pointer (some ⟨b, o, s⟩)) = o := rfl
def PtrTo (ι : Iota) (o i j : Nat) (u : Value) : Prop := ∃ v sz b, ι o = some (v, sz) ∧ blk v = some b ∧ u = .pointer (some ⟨b, offV v + (i * sz + j), none⟩)

/-- A slice of a row's tail: the elements from i on, n of them. -/
def SubOf (ι : Iota) (o i n : Nat) (u : Value) : Prop :=
  ∃ v sz, ι o = some (v, sz) ∧ n ≤ maxLen ∧ ∃ p c, u = .slice p n c ∧ (n ≠ 0 → ∃ b, blk v = some b ∧ p = some ⟨b, offV v + i * sz, none⟩)
def RepA (M : Mem) (ι : Iota) : A → Value → Prop
  | .c x, u => RepC M x u
  | .obj o, u => ∃ sz, ι o = some (u, sz)
  | .ptr o i j, u => PtrTo ι o i j u
  | .fn f caps, u => ∃ us : List Value, u = .func (.func f) #[] us.toArray ∧ All2 (fun o v => PtrTo ι o 0 0 v) caps us
  | .sub o i n, u => SubOf ι o i n u

theorem PtrTo.mono {ι ι' : Iota} (hι : ILe ι ι') {o i j : Nat} {u : Value} (h : PtrTo ι o i j u) : PtrTo ι' o i j u :=
  let ⟨v, sz, b, h1, h2, h3⟩ := h; ⟨v, sz, b, hι _ _ h1, h2, h3⟩

theorem RepA.mono {M M' : Mem} {ι ι' : Iota} (hM : MLe M M') (hι : ILe ι ι') : ∀ {a : A} {v : Value}, RepA M ι a v → RepA M' ι' a v
  | .c _, _, h => RepC.mono hM h
  | .obj _, _, ⟨sz, h⟩ => ⟨sz, hι _ _ h⟩
  | .ptr _ _ _, _, h => PtrTo.mono hι h
  | .fn _ _, _, ⟨us, h1, h2⟩ => ⟨us, h1, h2.mono fun _ _ => PtrTo.mono hι⟩
  | .sub _ _ _, _, ⟨v, sz, h1, h2⟩ => ⟨v, sz, hι _ _ h1, h2⟩

def RepV1 (M : Mem) (ι : Iota) : V1 → Value → Prop
  | .one a, u => RepA M ι a u
  | .agg as, u => ∃ us : List Value, u = .agg us.toArray ∧ All2 (RepA M ι) as us
theorem RepV1.mono {M M' : Mem} {ι ι' : Iota} (hM : MLe M M') (hι : ILe ι ι') : ∀ {a : V1} {v : Value}, RepV1 M ι a v → RepV1 M' ι' a v
  | .one _, _, h => RepA.mono hM hι h
  | .agg _, _, ⟨us, h1, h2⟩ => ⟨us, h1, h2.mono fun _ _ => RepA.mono hM hι⟩
def RepV (M : Mem) (ι : Iota) : V → Value → Prop
  | .v x, u => RepV1 M ι x u
  | .tup xs, u => ∃ us : List Value, u = .tuple us.toArray ∧ All2 (RepV1 M ι) xs us
theorem RepV.mono {M M' : Mem} {ι ι' : Iota} (hM : MLe M M') (hι : ILe ι ι') : ∀ {a : V} {v : Value}, RepV M ι a v → RepV M' ι' a v
  | .v _, _, h => RepV1.mono hM hι h
  | .tup _, _, ⟨us, h1, h2⟩ => ⟨us, h1, h2.mono fun _ _ => RepV1.mono hM hι⟩

def look (t : Nat) : Fr → Option V
  | [] => none
  | (k, v) :: r => match Nat.beq k t with
    | true => v
    | false => look t r
/-- What a frame's slots stand for. -/
def FrOk (M : Mem) (ι : Iota) (fr : Fr) (a : Act) : Prop := ∀ t v, look t fr = some v → ∃ u, a.tmps[t]? = some u ∧ RepV M ι v u

theorem frame_mono {M M' : Mem} {ι ι' : Iota} (hM : MLe M M') (hι : ILe ι ι') {fr : Fr} {a : Act} (h : FrOk M ι fr a) : FrOk M' ι' fr a := fun t v hv => let ⟨u, h1, h2⟩ := h t v hv; ⟨u, h1, h2.mono hM hι⟩

/-- None of a block's first n cells is frozen. -/
def Clear (fz : Nat × Nat) (n : Nat) : Prop := ∀ i, i < n → ¬ (fz.1 ≤ i ∧ i < fz.2)
theorem Clear.zero (n : Nat) : Clear (0, 0) n := fun _ _ h => absurd h.2 (Nat.not_lt_zero _)
/-- A slice value that owns the cells xs. -/
def Owns (w : World) (e : TypeId) (sz : Nat) (v : Value) (n : Nat) (xs : List Value) : Prop :=
  xs.length = n * sz ∧
  ((v = .slice none 0 0 ∧ n = 0) ∨
   ∃ g off cap cur, v = .slice (some ⟨g, off, none⟩) n cap ∧ (∃ fz, w.heap[g]? = some (.cells cur e fz) ∧ Clear fz cur.size) ∧ n ≤ cap ∧ cap ≤ maxLen ∧ off + cap * sz ≤ cur.size ∧ (cur.toList.drop off).take (n * sz) = xs)

def MapOb (M : Mem) (ι : Iota) (K : TypeDesc) (es : List (Value × V1)) (xs : Array MapEntry) (clock : Nat) : Prop :=
  All2 (fun (e : Value × V1) (x : MapEntry) => x.key = e.1 ∧ RepV1 M ι e.2 x.val) es xs.toList ∧ MapKept.Stamped xs clock ∧ (∀ x ∈ xs.toList, MapKept.IsKey K x.key) ∧ xs.size ≤ maxLen

def RepOb (M : Mem) (ι : Iota) (w : World) (x : Value × Nat) : Ob → Prop
  | .row e sz es => ∃ xs, x.2 = sz ∧ Owns w e x.2 x.1 es.length xs ∧ (∀ y ∈ es, y.length = x.2) ∧ All2 (RepA M ι) es.flatten xs ∧ (∀ u ∈ xs, u.oneCell' = true)
  | .box e cs => ∃ b xs, x = (.pointer (some ⟨b, 0, none⟩), cs.length) ∧ w.heap[b]? = some (.cells (List.toArray xs) e (0, 0)) ∧ All2 (RepA M ι) cs xs ∧ (∀ u ∈ xs, u.oneCell' = true)
  | .map K _ es => ∃ b xs clock, x.1 = .map (some b) ∧ w.heap[b]? = some (.map xs clock) ∧ MapOb M ι K es xs clock
  | .iter s pos => ∃ b, x.1 = .pointer (some ⟨b, 0, none⟩) ∧ w.heap[b]? = some (.stringIter ⟨s.toArray⟩ pos)
  | .loop p j => ∃ l r, x.1 = .func (.yield l) #[] #[] ∧ w.heap[l]? = some (.loop r) ∧ r.tmps.size = p.n ∧ FrOk M ι p.fr ⟨r.tmps, []⟩ ∧ r.params = p.ps.toArray ∧ r.assign = p.assign ∧ r.body = p.body ∧ r.state = (if j.isNone then .ready else .done) ∧ r.pending = j

theorem Owns.blk_of {w : World} {e : TypeId} {sz n : Nat} {v : Value} {xs : List Value} (h : Owns w e sz v n xs) : ∀ b, blk v = some b → ∃ cur fz, w.heap[b]? = some (.cells cur e fz) := by
  intro b hb
  rcases h.2 with ⟨rfl, _⟩ | ⟨g, off, cap, cur, rfl, ⟨fz, hh, _⟩, _⟩
  · simp [blk] at hb
  · simp [blk] at hb; subst hb; exact ⟨cur, fz, hh⟩

theorem Owns.same {w w' : World} {e : TypeId} {sz n : Nat} {v : Value} {xs : List Value} (h : Owns w e sz v n xs) (hs : ∀ b, blk v = some b → w'.heap[b]? = w.heap[b]?) : Owns w' e sz v n xs := by
  refine ⟨h.1, ?_⟩
  rcases h.2 with h2 | ⟨g, off, cap, cur, rfl, hh, r⟩
  · exact .inl h2
  · exact .inr ⟨g, off, cap, cur, rfl, by rw [hs g rfl]; exact hh, r⟩

theorem MapOb.mono {M M' : Mem} {ι ι' : Iota} (hM : MLe M M') (hι : ILe ι ι') {K : TypeDesc} {es : List (Value × V1)} {xs : Array MapEntry} {clock : Nat} (h : MapOb M ι K es xs clock) : MapOb M' ι' K es xs clock :=
  ⟨h.1.mono fun _ _ ⟨h1, h2⟩ => ⟨h1, h2.mono hM hι⟩, h.2⟩

theorem RepOb.lt {M : Mem} {ι : Iota} {w : World} {x : Value × Nat} {ob : Ob} (h : RepOb M ι w x ob) : ∀ b, blk x.1 = some b → b < w.heap.size := by
  intro b hb
  have key : ∀ o, w.heap[b]? = some o → b < w.heap.size := fun o ho => by
    rcases Nat.lt_or_ge b w.heap.size with h' | h'
    · exact h'
    · simp [Array.getElem?_eq_none h'] at ho
  cases ob with
  | row e sz es => obtain ⟨xs, _, ho, _⟩ := h; obtain ⟨cur, fz, hc⟩ := ho.blk_of b hb; exact key _ hc
  | box e cs => obtain ⟨b', xs, rfl, hh, _⟩ := h; simp [blk] at hb; subst hb; exact key _ hh
  | map K E es => obtain ⟨b', xs, cl, h1, hh, _⟩ := h; rw [h1] at hb; simp [blk] at hb; subst hb; exact key _ hh
  | iter s pos => obtain ⟨b', h1, hh⟩ := h; rw [h1] at hb; simp [blk] at hb; subst hb; exact key _ hh
  | loop p j => obtain ⟨l, r, h1, hh, _⟩ := h; rw [h1] at hb; simp [blk] at hb; subst hb; exact key _ hh

theorem RepOb.mono {M M' : Mem} {ι ι' : Iota} {w w' : World} (hM : MLe M M') (hι : ILe ι ι') {x : Value × Nat} {ob : Ob} (h : RepOb M ι w x ob) (hs : ∀ b, blk x.1 = some b → w'.heap[b]? = w.heap[b]?) : RepOb M' ι' w' x ob := by
  cases ob with
  | row e sz es => obtain ⟨xs, h0, ho, h1, h2, h3⟩ := h; exact ⟨xs, h0, ho.same hs, h1, h2.mono fun _ _ => RepA.mono hM hι, h3⟩
  | box e cs => obtain ⟨b', xs, rfl, hh, h2, h3⟩ := h; exact ⟨b', xs, rfl, by rw [hs b' rfl]; exact hh, h2.mono fun _ _ => RepA.mono hM hι, h3⟩
  | map K E es => obtain ⟨b', xs, cl, h1, hh, h2⟩ := h; exact ⟨b', xs, cl, h1, by rw [hs b' (by rw [h1]; rfl)]; exact hh, h2.mono hM hι⟩
  | iter s pos => obtain ⟨b', h1, hh⟩ := h; exact ⟨b', h1, by rw [hs b' (by rw [h1]; rfl)]; exact hh⟩
  | loop p j => obtain ⟨l, r, h1, hh, h2, h3, h4⟩ := h; exact ⟨l, r, h1, by rw [hs l (by rw [h1]; rfl)]; exact hh, h2, frame_mono hM hι h3, h4⟩

structure InvH (M : Mem) (ι : Iota) (H : List (Nat × Ob)) (nx : Nat) (w : World) : Prop where
  dom : ∀ o x, ι o = some x → o < nx
  one : ∀ o x, ι o = some x → x.1.oneCell' = true
  ob : ∀ p ∈ H, ∃ x, ι p.1 = some x ∧ RepOb M ι w x p.2
  sep : H.Pairwise fun p q => ∀ x y b, ι p.1 = some x → ι q.1 = some y → blk x.1 = some b → blk y.1 ≠ some b
  mem : ∀ b k u, M b k = some u → w.cell? ⟨b, k, none⟩ = some u ∧ u.oneCell' = true
  free : ∀ p ∈ H, ∀ x b, ι p.1 = some x → blk x.1 = some b → ∀ k, M b k = none

/-- What a frame's call began with. -/
structure Gh where
  w0 : World
  M0 : Mem
  ι0 : Iota
  X : Nat → Prop
  nx0 : Nat
  df : List Deferred

structure Kept (X : Nat → Prop) (w w' : World) : Prop where
  os : w'.os = w.os
  tape : w'.tape = w.tape
  output : w'.output = w.output
  size : w.heap.size ≤ w'.heap.size
  block : ∀ k, k < w.heap.size → ¬ X k → w'.heap[k]? = w.heap[k]?
theorem Kept.refl (X : Nat → Prop) (w : World) : Kept X w w := ⟨rfl, rfl, rfl, Nat.le_refl _, fun _ _ _ => rfl⟩
theorem Kept.trans {X Y : Nat → Prop} {a b c : World} (h : Kept X a b) (k : Kept Y b c) (hY : ∀ i, i < a.heap.size → Y i → X i) : Kept X a c :=
  ⟨k.os.trans h.os, k.tape.trans h.tape, k.output.trans h.output, Nat.le_trans h.size k.size, fun i hi hx => (k.block i (by have := h.size; omega) fun hy => hx (hY i hi hy)).trans (h.block i hi hx)⟩

def setD (d : Option Nat) (v : Option V) (fr : Fr) : Fr :=
  match d with
  | some t => (t, v) :: fr
  | none => fr

def St.get (st : St) (t : Nat) : Option V := look t st.fr
def St.set (st : St) (d : Option Nat) (v : V) : St := ⟨st.n, setD d (some v) st.fr, st.H, st.nx⟩
def St.unset (st : St) (d : Option Nat) : St := ⟨st.n, setD d none st.fr, st.H, st.nx⟩

/-- What was there is sealed no further, and no old object is met anew. -/
structure Past (X : Nat → Prop) (B nx0 : Nat) (M0 : Mem) (ι0 : Iota) (M : Mem) (ι : Iota) : Prop where
  seals : ∀ b k, M0 b k = none → M b k ≠ none → X b ∨ B ≤ b
  olds : ∀ o x, ι o = some x → o < nx0 → ι0 o = some x

structure Inv (G : Gh) (M : Mem) (ι : Iota) (st : St) (a : Act) (w : World) : Prop where
  core : InvH M ι st.H st.nx w
  fr : FrOk M ι st.fr a
  size : a.tmps.size = st.n
  defers : a.defers = G.df
  M0 : MLe G.M0 M
  ι0 : ILe G.ι0 ι
  kept : Kept G.X G.w0 w
  own : ∀ p ∈ st.H, ∀ x b, ι p.1 = some x → blk x.1 = some b → G.X b ∨ G.w0.heap.size ≤ b
  past : Past G.X G.w0.heap.size G.nx0 G.M0 G.ι0 M ι ∧ G.nx0 ≤ st.nx

theorem Inv.get {G : Gh} {M : Mem} {ι : Iota} {st : St} {a : Act} {w : World} (h : Inv G M ι st a w) {t : Nat} {v : V} (hv : st.get t = some v) : ∃ u, a.tmps[t]? = some u ∧ RepV M ι v u :=
  h.fr _ _ hv

/-- The frame's part of a step: a slot is written. -/
theorem frame_set {M : Mem} {ι : Iota} {fr : Fr} {a : Act} (h : FrOk M ι fr a) {t : Nat} {v : V} {u : Value} (ht : t < a.tmps.size) (hr : RepV M ι v u) : FrOk M ι ((t, some v) :: fr) (a.put (some t) u) := by
  intro k x hk
  simp only [look] at hk
  cases hb : Nat.beq t k with
  | true =>
    have : t = k := Nat.eq_of_beq_eq_true hb
    subst this
    rw [hb] at hk
    simp only [Option.some.injEq] at hk; subst hk
    exact ⟨u, by simp [Act.put, ht], hr⟩
  | false =>
    rw [hb] at hk
    have hne : t ≠ k := fun e => by subst e; simp at hb
    obtain ⟨u', h1, h2⟩ := h k x hk
    exact ⟨u', by simp only [Act.put]; rw [Array.getElem?_setIfInBounds_ne hne]; exact h1, h2⟩
theorem frame_unset {M : Mem} {ι : Iota} {fr : Fr} {a : Act} (h : FrOk M ι fr a) (t : Nat) (u : Value) : FrOk M ι ((t, none) :: fr) (a.put (some t) u) := by
  intro k x hk
  simp only [look] at hk
  cases hb : Nat.beq t k with
  | true => rw [hb] at hk; cases hk
  | false =>
    rw [hb] at hk
    have hne : t ≠ k := fun e => by subst e; simp at hb
    obtain ⟨u', h1, h2⟩ := h k x hk
    exact ⟨u', by simp only [Act.put]; rw [Array.getElem?_setIfInBounds_ne hne]; exact h1, h2⟩
/-- A slot is written in a state whose objects, memory and world may have gone on. -/
theorem Inv.step {G : Gh} {M M' : Mem} {ι ι' : Iota} {st st' : St} {a : Act} {w w' : World} (h : Inv G M ι st a w) (hM : MLe M M') (hι : ILe ι ι') {d : Option Nat} (hd : ∀ t, d = some t → t < st.n) {v : V} {u : Value}
    (hr : RepV M' ι' v u) (hn : st'.n = st.n) (hfr : st'.fr = st.fr) (hH : InvH M' ι' st'.H st'.nx w') (hk : Kept G.X G.w0 w') (ho : ∀ p ∈ st'.H, ∀ x b, ι' p.1 = some x → blk x.1 = some b → G.X b ∨ G.w0.heap.size ≤ b) (hp : Past G.X G.w0.heap.size G.nx0 G.M0 G.ι0 M' ι' ∧ G.nx0 ≤ st'.nx) :
    Inv G M' ι' (st'.set d v) (a.put d u) w' := by
  cases d with
  | none => exact ⟨hH, by simp only [St.set, setD, hfr]; exact frame_mono hM hι h.fr, h.size.trans hn.symm, h.defers, h.M0.trans hM, h.ι0.trans hι, hk, ho, hp⟩
  | some t =>
    refine ⟨hH, ?_, by simpa [Act.put, St.set, hn] using h.size, h.defers, h.M0.trans hM, h.ι0.trans hι, hk, ho, hp⟩
    simp only [St.set, setD, hfr]
    exact frame_set (frame_mono hM hι h.fr) (by rw [h.size]; exact hd t rfl) hr

theorem Inv.put {G : Gh} {M : Mem} {ι : Iota} {st : St} {a : Act} {w : World} (h : Inv G M ι st a w) {d : Option Nat} (hd : ∀ t, d = some t → t < st.n) {v : V} {u : Value} (hr : RepV M ι v u) :
    Inv G M ι (st.set d v) (a.put d u) w := h.step (.refl _) (.refl _) hd hr rfl rfl h.core h.kept h.own h.past
theorem Inv.unput {G : Gh} {M : Mem} {ι : Iota} {st : St} {a : Act} {w : World} (h : Inv G M ι st a w) (d : Option Nat) (u : Value) :
    Inv G M ι (st.unset d) (a.put d u) w := by
  cases d with
  | none => exact h
  | some t => exact ⟨h.core, frame_unset h.fr t u, by simpa [Act.put, St.unset] using h.size, h.defers, h.M0, h.ι0, h.kept, h.own, h.past⟩

/-- The world has grown, and changed in one block at most. -/
theorem InvH.grown {M : Mem} {ι : Iota} {H : List (Nat × Ob)} {nx : Nat} {w w' : World} (h : InvH M ι H nx w) {row : Option Nat} (hb : ∀ k, k < w.heap.size → some k ≠ row → w'.heap[k]? = w.heap[k]?)
    (hr : ∀ b, row = some b → (∀ k, M b k = none) ∧ ∀ p ∈ H, ∀ x, ι p.1 = some x → blk x.1 ≠ some b) : InvH M ι H nx w' := by
  refine ⟨h.dom, h.one, fun p hp => ?_, h.sep, fun b k u hu => ?_, h.free⟩
  · obtain ⟨x, hx, ho⟩ := h.ob p hp
    refine ⟨x, hx, ho.mono (.refl _) (.refl _) fun b hb' => hb b (ho.lt b hb') fun e => ?_⟩
    exact (hr b e.symm).2 p hp x hx hb'
  · obtain ⟨h1, h2⟩ := h.mem b k u hu
    refine ⟨?_, h2⟩
    have hlt : b < w.heap.size := by
      rcases Nat.lt_or_ge b w.heap.size with h' | h'
      · exact h'
      · simp [World.cell?, Array.getElem?_eq_none h'] at h1
    have : w'.heap[b]? = w.heap[b]? := hb b hlt fun e => by rw [(hr b e.symm).1 k] at hu; cases hu
    simp only [World.cell?, this] at h1 ⊢
    exact h1

theorem InvH.sub {M : Mem} {ι : Iota} {H H' : List (Nat × Ob)} {nx : Nat} {w : World} (h : InvH M ι H nx w) (hs : H'.Sublist H) : InvH M ι H' nx w :=
  ⟨h.dom, h.one, fun p hp => h.ob p (hs.subset hp), h.sep.sublist hs, h.mem, fun p hp => h.free p (hs.subset hp)⟩

def iset (ι : Iota) (o : Nat) (x : Value × Nat) : Iota := fun k => if k = o then some x else ι k
theorem ile_iset {ι : Iota} {nx : Nat} (h : ∀ o x, ι o = some x → o < nx) (x : Value × Nat) : ILe ι (iset ι nx x) := fun o y hy => by
  have := h o y hy
  simp only [iset]
  rw [if_neg (by omega)]
  exact hy

theorem Past.iset {X : Nat → Prop} {B nx0 nx : Nat} {M0 M : Mem} {ι0 ι : Iota} (h : Past X B nx0 M0 ι0 M ι) (hn : nx0 ≤ nx) (x : Value × Nat) : Past X B nx0 M0 ι0 M (iset ι nx x) :=
  ⟨h.seals, fun o y hy ho => h.olds o y (by simp only [Fl.iset] at hy; rwa [if_neg (by omega)] at hy) ho⟩

/-- A new object. -/
theorem InvH.add {M : Mem} {ι : Iota} {H : List (Nat × Ob)} {nx : Nat} {w : World} (h : InvH M ι H nx w) {x : Value × Nat} {ob : Ob} (ho : RepOb M (iset ι nx x) w x ob) (h1 : x.1.oneCell' = true)
    (hb : ∀ b, blk x.1 = some b → (∀ k, M b k = none) ∧ ∀ p ∈ H, ∀ y, ι p.1 = some y → blk y.1 ≠ some b) : InvH M (iset ι nx x) ((nx, ob) :: H) (nx + 1) w := by
  have hle : ILe ι (iset ι nx x) := ile_iset h.dom x
  have hold : ∀ o y, o < nx → iset ι nx x o = some y → ι o = some y := fun o y ho hy => by simp only [iset] at hy; rwa [if_neg (by omega)] at hy
  have hnew : iset ι nx x nx = some x := by simp [iset]
  have hlt : ∀ p ∈ H, p.1 < nx := fun p hp => let ⟨y, hy, _⟩ := h.ob p hp; h.dom _ _ hy
  refine ⟨fun o y hy => ?_, fun o y hy => ?_, fun p hp => ?_, ?_, h.mem, fun p hp => ?_⟩
  · simp only [iset] at hy
    by_cases he : o = nx
    · omega
    · rw [if_neg he] at hy; have := h.dom o y hy; omega
  · simp only [iset] at hy
    by_cases he : o = nx
    · rw [if_pos he] at hy; cases hy; exact h1
    · rw [if_neg he] at hy; exact h.one o y hy
  · rcases List.mem_cons.1 hp with rfl | hp
    · exact ⟨x, hnew, ho⟩
    · obtain ⟨y, hy, hob⟩ := h.ob p hp; exact ⟨y, hle _ _ hy, hob.mono (.refl _) hle fun _ _ => rfl⟩
  · refine List.Pairwise.cons (fun q hq y z b hy hz hb1 hb2 => ?_) (h.sep.imp_of_mem fun {p q} hp hq hpq y z b hy hz => hpq y z b (hold _ _ (hlt p hp) hy) (hold _ _ (hlt q hq) hz))
    rw [hnew] at hy; cases hy
    exact (hb b hb1).2 q hq z (hold _ _ (hlt q hq) hz) hb2
  · rcases List.mem_cons.1 hp with rfl | hp
    · intro y b hy hb1; rw [hnew] at hy; cases hy; exact (hb b hb1).1
    · intro y b hy hb1; exact h.free p hp y b (hold _ _ (hlt p hp) hy) hb1

theorem InvH.fresh {M : Mem} {ι : Iota} {H : List (Nat × Ob)} {nx : Nat} {w : World} (h : InvH M ι H nx w) {b : Nat} (hb : w.heap.size ≤ b) : (∀ k, M b k = none) ∧ ∀ p ∈ H, ∀ y, ι p.1 = some y → blk y.1 ≠ some b := by
  refine ⟨fun k => ?_, fun p hp y hy he => ?_⟩
  · cases hu : M b k with
    | none => rfl
    | some u =>
      have := (h.mem b k u hu).1
      simp [World.cell?, Array.getElem?_eq_none hb] at this
  · obtain ⟨x, hx, ho⟩ := h.ob p hp
    rw [hx] at hy; cases hy
    have := ho.lt b he
    omega

/-- A new block is laid, and is an object. -/
theorem InvH.laid {M : Mem} {ι : Iota} {H : List (Nat × Ob)} {nx : Nat} {w : World} (h : InvH M ι H nx w) {x : Value × Nat} {ob : Ob} (o : Obj) (hx : blk x.1 = some w.heap.size) (h1 : x.1.oneCell' = true) (ho : RepOb M (iset ι nx x) (w.alloc o) x ob) :
    InvH M (iset ι nx x) ((nx, ob) :: H) (nx + 1) (w.alloc o) := by
  have h2 : InvH M ι H nx (w.alloc o) := h.grown (row := none) (fun k hk _ => by
    show (w.heap.push o)[k]? = _
    rw [Array.getElem?_push, if_neg (by omega)]) (fun b hb => by cases hb)
  exact h2.add ho h1 fun b hb => by rw [hx] at hb; cases hb; exact h.fresh (Nat.le_refl _)

theorem Kept.alloc {X : Nat → Prop} {w0 w : World} (h : Kept X w0 w) (o : Obj) : Kept X w0 (w.alloc o) :=
  h.trans (Y := fun _ => False) ⟨rfl, rfl, rfl, (by show w.heap.size ≤ (w.heap.push o).size; simp), fun k hk _ => by
    show (w.heap.push o)[k]? = _
    rw [Array.getElem?_push, if_neg (by omega)]⟩ (fun _ _ h => h.elim)
theorem Kept.drew {X : Nat → Prop} {w0 w : World} (h : Kept X w0 w) (n : Nat) : Kept X w0 { w with drawn := n } := ⟨h.os, h.tape, h.output, h.size, h.block⟩
theorem InvH.drew {M : Mem} {ι : Iota} {H : List (Nat × Ob)} {nx : Nat} {w : World} (h : InvH M ι H nx w) (n : Nat) : InvH M ι H nx { w with drawn := n } :=
  h.grown (row := none) (fun _ _ _ => rfl) (fun b hb => by cases hb)
theorem Inv.drew {G : Gh} {M : Mem} {ι : Iota} {st : St} {a : Act} {w : World} (h : Inv G M ι st a w) (n : Nat) : Inv G M ι st a { w with drawn := n } :=
  ⟨h.core.drew n, h.fr, h.size, h.defers, h.M0, h.ι0, h.kept.drew n, h.own, h.past⟩

/-- A mark of a loop over a function that is over: its block holds no call. -/
def MarkAt (G : Gh) (B : Nat) (D : Nat) : Prop := B ≤ D ∧ D < G.w0.heap.size ∧ ¬ G.X D ∧ G.w0.heap[D]? = some (.deferred (some []))
abbrev markOf (D : Nat) : Deferred := { target := .collected D, args := #[] }
/-- A later beginning. -/
structure GLe (G G' : Gh) : Prop where
  M0 : MLe G.M0 G'.M0
  ι0 : ILe G.ι0 G'.ι0
  kept : Kept G.X G.w0 G'.w0
  X : ∀ b, G'.X b → G.X b ∨ G.w0.heap.size ≤ b
  past : Past G.X G.w0.heap.size G.nx0 G.M0 G.ι0 G'.M0 G'.ι0
  nx : G.nx0 ≤ G'.nx0
  marks : ∃ Ds : List Nat, G'.df = Ds.map markOf ++ G.df ∧ (∀ D ∈ Ds, MarkAt G' G.w0.heap.size D) ∧ Ds.Nodup
theorem Past.refl (X : Nat → Prop) (B nx : Nat) (M : Mem) (ι : Iota) : Past X B nx M ι M ι := ⟨fun _ _ h1 h2 => absurd h1 h2, fun _ _ h _ => h⟩
theorem GLe.refl (G : Gh) : GLe G G := ⟨.refl _, .refl _, .refl _ _, fun _ h => .inl h, .refl _ _ _ _ _, Nat.le_refl _, [], rfl, fun _ h => (by cases h), .nil⟩
theorem Past.trans {X X' : Nat → Prop} {B B' n n' : Nat} {M0 M1 M2 : Mem} {ι0 ι1 ι2 : Iota} (h : Past X B n M0 ι0 M1 ι1) (k : Past X' B' n' M1 ι1 M2 ι2) (hX : ∀ b, X' b → X b ∨ B ≤ b) (hB : B ≤ B') (hn : n ≤ n') : Past X B n M0 ι0 M2 ι2 := by
  refine ⟨fun b k' h0 h2 => ?_, fun o x hx ho => h.olds o x (k.olds o x hx (by omega)) ho⟩
  by_cases h1 : M1 b k' = none
  · rcases k.seals b k' h1 h2 with hb | hb
    · exact hX b hb
    · exact .inr (by omega)
  · exact h.seals b k' h0 h1
theorem GLe.trans {G G' G'' : Gh} (h : GLe G G') (k : GLe G' G'') : GLe G G'' := by
  refine ⟨h.M0.trans k.M0, h.ι0.trans k.ι0, h.kept.trans k.kept fun i hi hx => (h.X i hx).resolve_right (by omega), fun b hb => ?_, h.past.trans k.past h.X h.kept.size h.nx, Nat.le_trans h.nx k.nx, ?_⟩
  · rcases k.X b hb with hb | hb
    · exact h.X b hb
    · exact .inr (Nat.le_trans h.kept.size hb)
  · obtain ⟨D1, e1, m1, n1⟩ := h.marks
    obtain ⟨D2, e2, m2, n2⟩ := k.marks
    have hs := h.kept.size
    have hs2 := k.kept.size
    refine ⟨D2 ++ D1, by rw [e2, e1, List.map_append, List.append_assoc], fun D hD => ?_, List.nodup_append.2 ⟨n2, n1, fun a ha b hb e => ?_⟩⟩
    · rcases List.mem_append.1 hD with hD | hD
      · obtain ⟨a1, a2, a3, a4⟩ := m2 D hD
        exact ⟨by omega, a2, a3, a4⟩
      · obtain ⟨a1, a2, a3, a4⟩ := m1 D hD
        refine ⟨a1, by omega, fun hx => ?_, by rw [k.kept.block D a2 a3]; exact a4⟩
        rcases k.X D hx with hx | hx
        · exact a3 hx
        · omega
    · subst e
      have := (m2 a ha).1
      have := (m1 a hb).2.1
      omega
/-- What holds since a later beginning, told since an elder one. -/
theorem Inv.since {G G' : Gh} {M : Mem} {ι : Iota} {st : St} {a : Act} {w : World} (h : GLe G G') (hi : Inv G' M ι st a w) :
    MLe G.M0 M ∧ ILe G.ι0 ι ∧ Kept G.X G.w0 w ∧ (∀ p ∈ st.H, ∀ x b, ι p.1 = some x → blk x.1 = some b → G.X b ∨ G.w0.heap.size ≤ b) ∧ Past G.X G.w0.heap.size G.nx0 G.M0 G.ι0 M ι ∧ G.nx0 ≤ st.nx := by
  refine ⟨h.M0.trans hi.M0, h.ι0.trans hi.ι0, h.kept.trans hi.kept fun i hi' hx => (h.X i hx).resolve_right (by omega), fun p hp x b hx hb => ?_, h.past.trans hi.past.1 h.X h.kept.size h.nx, Nat.le_trans h.nx hi.past.2⟩
  rcases hi.own p hp x b hx hb with hb' | hb'
  · exact h.X b hb'
  · exact .inr (Nat.le_trans h.kept.size hb')
/-- A block that is no object's turns into something else; no cell of it is sealed. -/
theorem InvH.putObj {M : Mem} {ι : Iota} {H : List (Nat × Ob)} {nx : Nat} {w : World} (h : InvH M ι H nx w) {D : Nat} {o o' : Obj} (ho : w.heap[D]? = some o') (hc : ∀ cs e fz, o' ≠ .cells cs e fz) (hH : ∀ p ∈ H, ∀ x, ι p.1 = some x → blk x.1 ≠ some D) : InvH M ι H nx { w with heap := w.heap.setIfInBounds D o } := by
  refine h.grown (row := some D) (fun k _ hne => ?_) (fun b hb => ?_)
  · show (w.heap.setIfInBounds D o)[k]? = _
    exact Array.getElem?_setIfInBounds_ne fun e => hne (by rw [e])
  · simp only [Option.some.injEq] at hb; subst hb
    refine ⟨fun k => ?_, hH⟩
    cases hu : M D k with
    | none => rfl
    | some u =>
      have h1 := (h.mem D k u hu).1
      simp only [World.cell?, ho] at h1
      cases o' with
      | cells cs e fz => exact absurd rfl (hc cs e fz)
      | _ => simp at h1
end Go.Fl
