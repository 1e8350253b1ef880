/- From the reading of an argument to a closed value over the world's memory. Lemmas alone. -/
import Derived.Test.YtlaommikkfojfaaGreatDoorFlTypes
import Derived.WalkKit
import Derived.ProofKit
import Derived.OpenShut
import Derived.Carry
namespace Go.Fl
open Go Go.ChangeShapes Go.WideShapes
/-- The memory of a world: each cell that holds one value. -/
noncomputable def memOf (w : World) : Mem := fun b k => match w.cell? ⟨b, k, none⟩ with
  | some u => if u.oneCell' then some u else none
  | none => none
theorem memOf_some {w : World} {b k : Nat} {u : Value} (h : w.cell? ⟨b, k, none⟩ = some u) (h1 : u.oneCell' = true) : memOf w b k = some u := by
  unfold memOf; rw [h]; simp [h1]
theorem memOf_inv {w : World} {b k : Nat} {u : Value} (h : memOf w b k = some u) : w.cell? ⟨b, k, none⟩ = some u ∧ u.oneCell' = true := by
  unfold memOf at h
  split at h
  · split at h
    · cases h; exact ⟨by assumption, by assumption⟩
    · cases h
  · cases h
theorem inv_world (w : World) (nx : Nat) : InvH (memOf w) (fun _ => none) [] nx w :=
  ⟨fun _ _ h => (by cases h), fun _ _ h => (by cases h), fun _ h => (by cases h), .nil, fun _ _ _ h => memOf_inv h, fun _ h => (by cases h)⟩

theorem addr_add2 (a : Addr) (i j : Nat) : (a.add i).add j = a.add (i + j) := by
  unfold Addr.add
  by_cases hi : i = 0 <;> by_cases hj : j = 0 <;> simp [hi, hj, Nat.add_assoc]
/-- What a measure of readings is. -/
structure Bulk (H : Type) (bk : DataW H → Nat) (bka : List (DataW H) → Nat) : Prop where
  one : ∀ d, 1 ≤ bk d
  str : ∀ s, bk (.lit (.string s)) = s.length + 1
  slice : ∀ e s, bka e + 1 ≤ bk (.slice e s)
  agg : ∀ l, bk (.agg l) = bka l + 1
  nil : bka [] = 0
  cons : ∀ d r, bka (d :: r) = bk d + bka r

section
variable {H : Type} {enc : TypeId × Value → H} {P : Program} {w : World} {bk : DataW H → Nat} {bka : List (DataW H) → Nat}
/-- What is read at a type is one of these values. -/
def Rd (enc : TypeId × Value → H) (P : Program) (w : World) (bk : DataW H → Nat) (t : TypeId) (n : Nat) {α : Type} (f : α → List C) (m : α → Nat) (q : α → Prop) : Prop :=
  ∀ fuel, fuel < n → ∀ cs x, DataW.trod enc P w 0 (fun _ => true) true fuel t cs = some x → ∃ a, All2 (RepC (memOf w)) (f a) cs ∧ (∀ u ∈ cs, u.oneCell' = true) ∧ m a ≤ bk x.1 ∧ q a
/-- What an int can be. -/
def qI (n : Int) : Prop := -9223372036854775808 ≤ n ∧ n ≤ 9223372036854775807
theorem Rd.i64 {t : TypeId} {n : Nat} (B : Bulk H bk bka) (ht : P.underlying t = some (.int .i64)) : Rd enc P w bk t n encI (fun _ => 1) qI := by
  intro fuel _ cs x h
  obtain ⟨i, rfl, rfl, hw⟩ := DataW.trod_int ht h
  refine ⟨i, ⟨RepC.lit _, trivial⟩, by simp [Value.oneCell'], B.one _, ?_⟩
  simp only [Lit.wf, Bool.and_eq_true, decide_eq_true_eq] at hw
  simp [IntKind.min, IntKind.max, IntKind.signed, IntKind.bits] at hw
  unfold qI; omega
def mS (s : Bytes) : Nat := s.length + 1
theorem Rd.str {t : TypeId} {n : Nat} (B : Bulk H bk bka) (ht : P.underlying t = some .string) : Rd enc P w bk t n encS mS (fun _ => True) := by
  intro fuel _ cs x h
  obtain ⟨s, rfl, rfl, _⟩ := DataW.trod_string ht h
  refine ⟨s.data.toList, ⟨?_, trivial⟩, by simp [Value.oneCell'], by rw [B.str]; exact Nat.le_refl _, trivial⟩
  have : Fl.str s.data.toList = .string s := by simp [Fl.str]
  rw [← this]; exact RepC.lit _
def mL {α : Type} (m : α → Nat) (l : List α) : Nat := (l.map m).sum + 1
theorem mL_cons {α : Type} (m : α → Nat) (x : α) (l : List α) : mL m (x :: l) = m x + mL m l := by simp [mL]; omega
theorem mL_length {α : Type} {m : α → Nat} (h : ∀ x, 1 ≤ m x) : ∀ l : List α, l.length + 1 ≤ mL m l
  | [] => by simp [mL]
  | x :: l => by have := mL_length h l; have := h x; rw [mL_cons]; simp; omega
theorem mL_mem {α : Type} {m : α → Nat} {x : α} : ∀ {l : List α}, x ∈ l → m x < mL m l
  | y :: l, h => by
    rw [mL_cons]
    rcases List.mem_cons.1 h with rfl | h
    · have : 1 ≤ mL m l := by simp [mL]
      omega
    · have := mL_mem (m := m) h; omega
theorem list_of {α β : Type} {p : Nat → β → α → Prop} : ∀ (l : List β) (k : Nat), (∀ i y, l[i]? = some y → ∃ a, p (k + i) y a) → ∃ as : List α, as.length = l.length ∧ ∀ i y a, l[i]? = some y → as[i]? = some a → p (k + i) y a
  | [], _, _ => ⟨[], rfl, fun i y a h => by simp at h⟩
  | x :: l, k, h => by
    obtain ⟨a, ha⟩ := h 0 x rfl
    obtain ⟨as, h1, h2⟩ := list_of l (k + 1) fun i y hy => by
      have := h (i + 1) y (by simpa using hy)
      rwa [show k + (i + 1) = k + 1 + i by omega] at this
    refine ⟨a :: as, by simp [h1], fun i y b hy hb => ?_⟩
    cases i with
    | zero => simp at hy hb; subst hy; subst hb; exact ha
    | succ i =>
      have := h2 i y b (by simpa using hy) (by simpa using hb)
      rwa [show k + 1 + i = k + (i + 1) by omega] at this
theorem sum_le_bka {α : Type} {m : α → Nat} (B : Bulk H bk bka) : ∀ (as : List α) (ds : List (DataW H)), as.length = ds.length → (∀ (i : Nat) a d, as[i]? = some a → ds[i]? = some d → m a ≤ bk d) → (as.map m).sum ≤ bka ds
  | [], [], _, _ => by simp
  | a :: as, d :: ds, hl, h => by
    have h1 := h 0 a d rfl rfl
    have h2 := sum_le_bka B as ds (by simpa using hl) fun i x y hx hy => h (i + 1) x y (by simpa using hx) (by simpa using hy)
    rw [B.cons]; simp; omega
  | [], _ :: _, hl, _ => by simp at hl
  | _ :: _, [], hl, _ => by simp at hl
/-- A slice. -/
theorem Rd.slice {t e : TypeId} {sz n : Nat} {α : Type} {f : α → List C} {m : α → Nat} {q : α → Prop} (B : Bulk H bk bka) (ht : P.underlying t = some (.slice e)) (hc : P.cellsOf e = sz) (hpos : 0 < sz) (h : Rd enc P w bk e n f m q) : Rd enc P w bk t (n + 1) (encL sz f) (mL m) (fun l => ∀ x ∈ l, q x) := by
  intro fuel hf cs x hx
  rcases DataW.trod_slice ht hx with ⟨rfl, rfl⟩ | ⟨a, len, cap, elems, rest, k, rfl, rfl, rfl, _, hl, hm, hlen, hel, _, _⟩
  · exact ⟨[], ⟨RepC.nil _ _ _ _ (fun _ => rfl) (fun h => by cases h) (Nat.zero_le _), trivial⟩, by simp [Value.oneCell'], by simp [mL]; exact B.one _, fun _ h => (by cases h)⟩
  · subst hlen
    rw [hc] at hel
    have key : ∀ i y, elems[i]? = some y → ∃ cs', (cs'.length = sz ∧ ∀ j, j < sz → w.cell? ((a.add (i * sz)).add j) = cs'[j]?) ∧ DataW.trod enc P w 0 (fun _ => true) true k e cs' = some y := fun i y hy => by
      have hi : i < elems.length := (List.getElem?_eq_some_iff.1 hy).1
      have := hel i hi
      rw [hy] at this
      obtain ⟨cs', h1, h2⟩ := Option.bind_eq_some_iff.1 this
      obtain ⟨_, h3, h4⟩ := World.cells?_some h1
      exact ⟨cs', ⟨h3, h4⟩, h2⟩
    obtain ⟨as, hal, has⟩ := list_of (p := fun i (y : DataW H × List MemPlace) (b : α) => ∃ cs', (cs'.length = sz ∧ ∀ j, j < sz → w.cell? ((a.add (i * sz)).add j) = cs'[j]?) ∧ All2 (RepC (memOf w)) (f b) cs' ∧ (∀ u ∈ cs', u.oneCell' = true) ∧ m b ≤ bk y.1 ∧ q b) elems 0 fun i y hy => by
      rw [Nat.zero_add]
      obtain ⟨cs', h1, h2⟩ := key i y hy
      obtain ⟨b, h3, h4, h5⟩ := h k (by omega) cs' y h2
      exact ⟨b, cs', h1, h3, h4, h5⟩
    have hbulk : mL m as ≤ bk (.slice (elems.map (·.1)) (rest.map (·.1))) := by
      have h1 := B.slice (elems.map (·.1)) (rest.map (·.1))
      have h2 := sum_le_bka (m := m) B as (elems.map (·.1)) (by simp [hal]) fun i b d hb hd => by
        rw [List.getElem?_map] at hd
        cases hy : elems[i]? with
        | none => rw [hy] at hd; cases hd
        | some y =>
          rw [hy] at hd; simp at hd; subst hd
          obtain ⟨_, _, _, _, h5, _⟩ := has i y b hy hb
          exact h5
      simp only [mL]; omega
    have hq : ∀ x ∈ as, q x := fun x hx => by
      obtain ⟨i, hi⟩ := List.getElem?_of_mem hx
      have hil : i < elems.length := by rw [← hal]; exact (List.getElem?_eq_some_iff.1 hi).1
      obtain ⟨_, _, _, _, _, h6⟩ := has i elems[i] x (List.getElem?_eq_getElem hil) hi
      exact h6
    refine ⟨as, ⟨?_, trivial⟩, by simp [Value.oneCell'], hbulk, hq⟩
    by_cases hne : as = []
    · subst hne
      have h0 : elems.length = 0 := by rw [← hal]; rfl
      rw [h0]
      exact RepC.nil _ _ _ _ (fun h => by cases h) (fun h => by cases h) hm
    · have hspot : ∃ b off, a = ⟨b, off, none⟩ := by
        obtain ⟨b, as', rfl⟩ : ∃ b as', as = b :: as' := by cases as with | nil => exact absurd rfl hne | cons b as' => exact ⟨b, as', rfl⟩
        obtain ⟨y, es', rfl⟩ : ∃ y es', elems = y :: es' := by cases elems with | nil => simp at hal | cons y es' => exact ⟨y, es', rfl⟩
        obtain ⟨cs', ⟨h1, h2⟩, _⟩ := has 0 y b rfl rfl
        have h3 := h2 0 hpos
        obtain ⟨c, hc'⟩ : ∃ c, cs'[0]? = some c := by cases cs' with | nil => simp at h1; omega | cons c _ => exact ⟨c, rfl⟩
        rw [hc'] at h3
        have := World.cell?_spot h3
        obtain ⟨b, off, sp⟩ := a
        simp [Addr.add] at this
        exact ⟨b, off, by rw [this]⟩
      obtain ⟨b, off, rfl⟩ := hspot
      have hget : ∀ (i : Nat) (es : List C) (j : Nat) (c : C), (as.map f)[i]? = some es → es[j]? = some c → ∃ u, memOf w b (off + (i * sz + j)) = some u ∧ RepC (memOf w) c u := fun i es j c hi hj => by
        rw [List.getElem?_map] at hi
        cases hb : as[i]? with
        | none => rw [hb] at hi; cases hi
        | some y =>
          rw [hb] at hi; simp at hi; subst hi
          have hil : i < elems.length := by rw [← hal]; exact (List.getElem?_eq_some_iff.1 hb).1
          obtain ⟨cs', ⟨h1, h2⟩, h3, h4, _⟩ := has i elems[i] y (List.getElem?_eq_getElem hil) hb
          rw [Nat.zero_add] at h2
          obtain ⟨u, hu, hr⟩ := h3.get hj
          have hjs : j < sz := by rw [← h1]; exact (List.getElem?_eq_some_iff.1 hu).1
          have h5 := h2 j hjs
          rw [hu, addr_add2, add_plain] at h5
          exact ⟨u, memOf_some h5 (h4 u (List.mem_of_getElem? hu)), hr⟩
      have hlen : (as.map f).length = elems.length := by simp [hal]
      have hel' : ∀ e ∈ as.map f, e.length = sz := fun e he => by
        obtain ⟨i, hi⟩ := List.getElem?_of_mem he
        rw [List.getElem?_map] at hi
        cases hb : as[i]? with
        | none => rw [hb] at hi; cases hi
        | some y =>
          rw [hb] at hi; simp at hi; subst hi
          have hil : i < elems.length := by rw [← hal]; exact (List.getElem?_eq_some_iff.1 hb).1
          obtain ⟨cs', ⟨h1, h2⟩, h3, h4, _⟩ := has i elems[i] y (List.getElem?_eq_getElem hil) hb
          rw [h3.len, h1]
      rw [← hlen]
      exact RepC.ro sz false (as.map f) b off cap (fun i j => (memOf w b (off + (i * sz + j))).getD undef) (by simpa using hne) hel' (by rw [hlen]; exact hl) hm (fun h => by cases h)
        (fun i e j c h1 h2 => by obtain ⟨u, hu, _⟩ := hget i e j c h1 h2; simp [hu]) (fun i e j c h1 h2 => by obtain ⟨u, hu, hr⟩ := hget i e j c h1 h2; simp [hu]; exact hr)
/-- A part of a struct's cells. -/
theorem part_of {fs : Array Field} {xs : List (DataW H × List MemPlace)} {cs : List Value} {n : Nat} {α : Type} {f : α → List C} {m : α → Nat} {q : α → Prop} {N : Nat} (hn : n < N) (hx : ∀ (i : Nat) (g : Field), fs[i]? = some g → DataW.trod enc P w 0 (fun _ => true) true n g.type ((cs.drop g.offset).take (P.cellsOf g.type)) = xs[i]?) (hl : xs.length = fs.size)
    (i : Nat) {g : Field} (hg : fs[i]? = some g) (h : Rd enc P w bk g.type N f m q) : ∃ a y, xs[i]? = some y ∧ All2 (RepC (memOf w)) (f a) ((cs.drop g.offset).take (P.cellsOf g.type)) ∧ (∀ u ∈ ((cs.drop g.offset).take (P.cellsOf g.type)), u.oneCell' = true) ∧ m a ≤ bk y.1 ∧ q a := by
  have h1 := hx i g hg
  have hi : i < xs.length := by rw [hl]; exact (Array.getElem?_eq_some_iff.1 hg).1
  rw [List.getElem?_eq_getElem hi] at h1
  obtain ⟨a, h2, h3, h4⟩ := h n hn _ _ h1
  exact ⟨a, xs[i], List.getElem?_eq_getElem hi, h2, h3, h4⟩
mutual
def mV : PVal → Nat
  | ⟨_, _, _, t, items⟩ => mS t + mVs items + 4
def mVs : List PVal → Nat
  | [] => 1
  | x :: r => mV x + mVs r
end
theorem mVs_eq : ∀ l : List PVal, mVs l = mL mV l
  | [] => by simp [mVs, mL]
  | x :: l => by rw [mVs, mVs_eq l, mL_cons]
/-- A value of a property is read. -/
theorem Rd.pval {t : TypeId} (B : Bulk H bk bka) {fs : Array Field} (ht : P.underlying t = some (.struct fs)) (hsz : fs.size = 5) (f0 f1 f2 f3 f4 : Field) (h0 : fs[0]? = some f0) (h1 : fs[1]? = some f1) (h2 : fs[2]? = some f2) (h3 : fs[3]? = some f3) (h4 : fs[4]? = some f4)
    (o0 : f0.offset = 0) (o1 : f1.offset = 1) (o2 : f2.offset = 2) (o3 : f3.offset = 3) (o4 : f4.offset = 4) (i0 : P.underlying f0.type = some (.int .i64)) (i1 : P.underlying f1.type = some (.int .i64)) (i2 : P.underlying f2.type = some (.int .i64)) (i3 : P.underlying f3.type = some .string) (i4 : P.underlying f4.type = some (.slice t))
    (c0 : P.cellsOf f0.type = 1) (c1 : P.cellsOf f1.type = 1) (c2 : P.cellsOf f2.type = 1) (c3 : P.cellsOf f3.type = 1) (c4 : P.cellsOf f4.type = 1) (ct : P.cellsOf t = 5) : ∀ n, Rd enc P w bk t n encV mV (fun _ => True) ∧ Rd enc P w bk f4.type n (encL 5 encV) (mL mV) (fun l => ∀ x ∈ l, True) := by
  intro n
  induction n with
  | zero => exact ⟨fun _ h => absurd h (Nat.not_lt_zero _), fun _ h => absurd h (Nat.not_lt_zero _)⟩
  | succ n ih =>
    have hs : Rd enc P w bk f4.type (n + 1) (encL 5 encV) (mL mV) (fun l => ∀ x ∈ l, True) := Rd.slice B i4 ct (by omega) ih.1
    refine ⟨?_, hs⟩
    intro fuel hf cs x hx
    obtain ⟨xs, k, rfl, rfl, hl, hlen, hel⟩ := DataW.trod_struct ht hx
    rw [ct] at hl
    match cs, hl with
    | [v0, v1, v2, v3, v4], _ =>
      obtain ⟨a0, y0, q0, r0, e0, b0, za0⟩ := part_of (N := n) (bk := bk) (by omega) hel hlen 0 h0 (Rd.i64 B i0)
      obtain ⟨a1, y1, q1, r1, e1, b1, za1⟩ := part_of (N := n) (bk := bk) (by omega) hel hlen 1 h1 (Rd.i64 B i1)
      obtain ⟨a2, y2, q2, r2, e2, b2, za2⟩ := part_of (N := n) (bk := bk) (by omega) hel hlen 2 h2 (Rd.i64 B i2)
      obtain ⟨a3, y3, q3, r3, e3, b3, za3⟩ := part_of (N := n) (bk := bk) (by omega) hel hlen 3 h3 (Rd.str B i3)
      obtain ⟨a4, y4, q4, r4, e4, b4, za4⟩ := part_of (N := n) (bk := bk) (by omega) hel hlen 4 h4 ih.2
      rw [o0, c0] at r0 e0
      rw [o1, c1] at r1 e1
      rw [o2, c2] at r2 e2
      rw [o3, c3] at r3 e3
      rw [o4, c4] at r4 e4
      rw [hsz] at hlen
      match xs, hlen with
      | [z0, z1, z2, z3, z4], _ =>
        simp at q0 q1 q2 q3 q4 e0 e1 e2 e3 e4
        subst q0; subst q1; subst q2; subst q3; subst q4
        refine ⟨.mk a0 a1 a2 a3 a4, ?_, ?_, ?_, trivial⟩
        · have : encV (.mk a0 a1 a2 a3 a4) = encI a0 ++ encI a1 ++ encI a2 ++ encS a3 ++ encL 5 encV a4 := by
            show [_, _, _, _, C.ro 5 false (encVs a4)] = [_, _, _, _, C.ro 5 false (a4.map encV)]
            rw [encVs_eq]; rfl
          rw [this]
          exact ((((All2.append r0 r1).append r2).append r3).append r4)
        · intro u hu
          simp at hu
          rcases hu with rfl | rfl | rfl | rfl | rfl <;> assumption
        · rw [B.agg]
          simp only [List.map_cons, List.map_nil, B.cons, B.nil, mV, mVs_eq]
          omega
theorem Rd.pprop {t : TypeId} (B : Bulk H bk bka) {fs : Array Field} (ht : P.underlying t = some (.struct fs)) (hsz : fs.size = 2) (f0 f1 : Field) (h0 : fs[0]? = some f0) (h1 : fs[1]? = some f1) (o0 : f0.offset = 0) (o1 : f1.offset = 1) (i0 : P.underlying f0.type = some .string)
    (c0 : P.cellsOf f0.type = 1) (c1 : P.cellsOf f1.type = 5) (ct : P.cellsOf t = 6) (hv : ∀ n, Rd enc P w bk f1.type n encV mV (fun _ => True)) (n : Nat) : Rd enc P w bk t n encP (fun p => mS p.name + mV p.value + 1) (fun _ => True) := by
  intro fuel hf cs x hx
  obtain ⟨xs, k, rfl, rfl, hl, hlen, hel⟩ := DataW.trod_struct ht hx
  rw [ct] at hl
  match cs, hl with
  | [v0, v1, v2, v3, v4, v5], _ =>
    obtain ⟨a0, y0, q0, r0, e0, b0, za0⟩ := part_of (N := n) (bk := bk) (by omega) hel hlen 0 h0 (Rd.str B i0)
    obtain ⟨a1, y1, q1, r1, e1, b1, za1⟩ := part_of (N := n) (bk := bk) (by omega) hel hlen 1 h1 (hv n)
    rw [o0, c0] at r0 e0
    rw [o1, c1] at r1 e1
    rw [hsz] at hlen
    match xs, hlen with
    | [z0, z1], _ =>
      simp at q0 q1 e0 e1
      subst q0; subst q1
      refine ⟨⟨a0, a1⟩, ?_, ?_, ?_, trivial⟩
      · exact All2.append r0 r1
      · intro u hu
        simp at hu
        rcases hu with rfl | rfl | rfl | rfl | rfl | rfl <;> simp_all
      · rw [B.agg]
        simp only [List.map_cons, List.map_nil, B.cons, B.nil]
        omega
def mP (p : PProp) : Nat := mS p.name + mV p.value + 1
def mB (b : Block) : Nat := mL (fun _ => 1) b.kids + mS b.text + mL mP b.props + 3
theorem Rd.block {t : TypeId} (B : Bulk H bk bka) {fs : Array Field} (ht : P.underlying t = some (.struct fs)) (hsz : fs.size = 5) (f0 f1 f2 f3 f4 : Field) (h0 : fs[0]? = some f0) (h1 : fs[1]? = some f1) (h2 : fs[2]? = some f2) (h3 : fs[3]? = some f3) (h4 : fs[4]? = some f4)
    (o0 : f0.offset = 0) (o1 : f1.offset = 1) (o2 : f2.offset = 2) (o3 : f3.offset = 3) (o4 : f4.offset = 4) (i0 : P.underlying f0.type = some (.int .i64)) (i1 : P.underlying f1.type = some (.int .i64)) {ei ep : TypeId} (i2 : P.underlying f2.type = some (.slice ei)) (ii : P.underlying ei = some (.int .i64)) (ci : P.cellsOf ei = 1) (i3 : P.underlying f3.type = some .string) (i4 : P.underlying f4.type = some (.slice ep)) (cp : P.cellsOf ep = 6)
    (c0 : P.cellsOf f0.type = 1) (c1 : P.cellsOf f1.type = 1) (c2 : P.cellsOf f2.type = 1) (c3 : P.cellsOf f3.type = 1) (c4 : P.cellsOf f4.type = 1) (ct : P.cellsOf t = 5) (hp : ∀ n, Rd enc P w bk ep n encP mP (fun _ => True)) (n : Nat) : Rd enc P w bk t n encB mB (fun b => ∀ k ∈ b.kids, qI k) := by
  intro fuel hf cs x hx
  obtain ⟨xs, k, rfl, rfl, hl, hlen, hel⟩ := DataW.trod_struct ht hx
  rw [ct] at hl
  match cs, hl with
  | [v0, v1, v2, v3, v4], _ =>
    obtain ⟨a0, y0, q0, r0, e0, b0, za0⟩ := part_of (N := n) (bk := bk) (by omega) hel hlen 0 h0 (Rd.i64 B i0)
    obtain ⟨a1, y1, q1, r1, e1, b1, za1⟩ := part_of (N := n) (bk := bk) (by omega) hel hlen 1 h1 (Rd.i64 B i1)
    obtain ⟨a2, y2, q2, r2, e2, b2, za2⟩ := part_of (N := n + 1) (bk := bk) (by omega) hel hlen 2 h2 (Rd.slice B i2 ci (by omega) (Rd.i64 B ii))
    obtain ⟨a3, y3, q3, r3, e3, b3, za3⟩ := part_of (N := n) (bk := bk) (by omega) hel hlen 3 h3 (Rd.str B i3)
    obtain ⟨a4, y4, q4, r4, e4, b4, za4⟩ := part_of (N := n + 1) (bk := bk) (by omega) hel hlen 4 h4 (Rd.slice B i4 cp (by omega) (hp n))
    rw [o0, c0] at r0 e0
    rw [o1, c1] at r1 e1
    rw [o2, c2] at r2 e2
    rw [o3, c3] at r3 e3
    rw [o4, c4] at r4 e4
    rw [hsz] at hlen
    match xs, hlen with
    | [z0, z1, z2, z3, z4], _ =>
      simp at q0 q1 q2 q3 q4 e0 e1 e2 e3 e4
      subst q0; subst q1; subst q2; subst q3; subst q4
      refine ⟨⟨a0, a1, a2, a3, a4⟩, ?_, ?_, ?_, za2⟩
      · have : encB ⟨a0, a1, a2, a3, a4⟩ = encI a0 ++ encI a1 ++ encL 1 encI a2 ++ encS a3 ++ encL 6 encP a4 := rfl
        rw [this]
        exact ((((All2.append r0 r1).append r2).append r3).append r4)
      · intro u hu
        simp at hu
        rcases hu with rfl | rfl | rfl | rfl | rfl <;> assumption
      · rw [B.agg]
        simp only [List.map_cons, List.map_nil, B.cons, B.nil, mB]
        omega
end
end Go.Fl
