/- Steps over states: stores, new variables and slices, appends. Lemmas alone. -/
import Derived.Test.YtlaommikkfojfaaGreatDoorFlMem
import Derived.ArgAppend
namespace Go.Fl
open Go

/-- One block is laid anew. -/
def setBlk (w : World) (b : Nat) (o : Obj) : World := { w with heap := w.heap.setIfInBounds b o }
theorem setBlk_at {w : World} {b : Nat} {o o' : Obj} (h : w.heap[b]? = some o') : (setBlk w b o).heap[b]? = some o := by
  have hlt : b < w.heap.size := by
    rcases Nat.lt_or_ge b w.heap.size with h' | h'
    · exact h'
    · simp [Array.getElem?_eq_none h'] at h
  simp [setBlk, hlt]
theorem setBlk_other {w : World} {b k : Nat} {o : Obj} (h : k ≠ b) : (setBlk w b o).heap[k]? = w.heap[k]? := by
  simp [setBlk, Array.getElem?_setIfInBounds_ne (Ne.symm h)]
theorem setBlk_size {w : World} {b : Nat} {o : Obj} : (setBlk w b o).heap.size = w.heap.size := by simp [setBlk]
theorem setBlk_setBlk {w : World} {b : Nat} {o o' : Obj} : setBlk (setBlk w b o) b o' = setBlk w b o' := by
  simp only [setBlk]
  congr 1
  apply Array.ext_getElem?
  intro i
  by_cases h : b = i
  · subst h
    simp [Array.getElem?_setIfInBounds]
  · simp [Array.getElem?_setIfInBounds_ne h]
theorem setBlk_same {w : World} {b : Nat} {o : Obj} (h : w.heap[b]? = some o) : setBlk w b o = w := by
  simp only [setBlk]
  congr 1
  apply Array.ext_getElem?
  intro i
  by_cases hi : b = i
  · subst hi
    have hlt : b < w.heap.size := by
      rcases Nat.lt_or_ge b w.heap.size with h' | h'
      · exact h'
      · simp [Array.getElem?_eq_none h'] at h
    rw [Array.getElem?_setIfInBounds, if_pos rfl, if_pos hlt, h]
  · simp [Array.getElem?_setIfInBounds_ne hi]

theorem setCell_eq {w : World} {b k : Nat} {v : Value} {cur : Array Value} {e : TypeId} {fz : Nat × Nat} (h : w.heap[b]? = some (.cells cur e fz)) : w.setCell ⟨b, k, none⟩ v = setBlk w b (.cells (cur.setIfInBounds k v) e fz) := by
  simp only [World.setCell, setBlk]
  congr 1
  apply Array.ext_getElem?
  intro i
  simp only [Array.getElem?_modify]
  by_cases hi : b = i
  · subst hi
    have hlt : b < w.heap.size := by
      rcases Nat.lt_or_ge b w.heap.size with h' | h'
      · exact h'
      · simp [Array.getElem?_eq_none h'] at h
    rw [if_pos rfl, h, Array.getElem?_setIfInBounds, if_pos rfl, if_pos hlt]
    simp
  · simp [hi, Array.getElem?_setIfInBounds_ne hi]

/-- The cells from k on written over. -/
def splice (cur : List Value) (k : Nat) : List Value → List Value
  | [] => cur
  | v :: vs => splice (cur.set k v) (k + 1) vs

theorem run_storeCells {P : Program} : ∀ (vs : List Value) (w : World) (cur : List Value) (e : TypeId) (fz : Nat × Nat) (b k i : Nat), w.heap[b]? = some (.cells cur.toArray e fz) → Clear fz cur.length → k + i + vs.length ≤ cur.length → (∀ v ∈ vs, v.oneCell' = true) →
    (storeCells ⟨b, k, none⟩ vs i).run P w = .ok () (setBlk w b (.cells (splice cur (k + i) vs).toArray e fz))
  | [], w, cur, e, fz, b, k, i, h, _, _, _ => by simp [storeCells, splice, setBlk_same h]
  | v :: vs, w, cur, e, fz, b, k, i, h, hz, hl, h1 => by
    have hlen : k + i < cur.length := by simp at hl; omega
    have hcell : w.cell? ⟨b, k + i, none⟩ = some cur[k + i] := by simp [World.cell?, h, hlen]
    have hfr : w.frozen? ⟨b, k + i, none⟩ = false := by
      have := hz (k + i) hlen
      simp only [World.frozen?, h]
      simp only [Bool.and_eq_false_iff, decide_eq_false_iff_not]
      omega
    have hst := run_store P w ⟨b, k + i, none⟩ v .plain (h1 v List.mem_cons_self)
    have hsc := setCell_eq (w := w) (b := b) (k := k + i) (v := v) h
    have hh : (setBlk w b (.cells (cur.toArray.setIfInBounds (k + i) v) e fz)).heap[b]? = some (.cells (cur.set (k + i) v).toArray e fz) := by
      rw [setBlk_at h]; simp
    have ih := run_storeCells (P := P) vs _ (cur.set (k + i) v) e fz b k (i + 1) hh (by simpa using hz) (by simp at hl ⊢; omega) fun x hx => h1 x (List.mem_cons_of_mem _ hx)
    simp only [storeCells, Sem.run_bind, addr_add, hst, hcell, hfr, hsc]
    simp only [Bool.false_eq_true, if_false, Result.andThen_ok, ih, setBlk_setBlk, splice, Nat.add_assoc]

theorem setCells_eq : ∀ (vs : List Value) (w : World) (cur : List Value) (e : TypeId) (fz : Nat × Nat) (b o : Nat), w.heap[b]? = some (.cells cur.toArray e fz) → o + vs.length ≤ cur.length → w.setCells b o vs = setBlk w b (.cells (splice cur o vs).toArray e fz)
  | [], w, cur, e, fz, b, o, h, _ => by simp [World.setCells, splice, setBlk_same h]
  | v :: vs, w, cur, e, fz, b, o, h, hl => by
    have hsc := setCell_eq (w := w) (b := b) (k := o) (v := v) h
    have hh : (setBlk w b (.cells (cur.toArray.setIfInBounds o v) e fz)).heap[b]? = some (.cells (cur.set o v).toArray e fz) := by
      rw [setBlk_at h]; simp
    have ih := setCells_eq vs _ (cur.set o v) e fz b (o + 1) hh (by simp at hl ⊢; omega)
    simp only [World.setCells, hsc, ih, setBlk_setBlk, splice]

theorem splice_length : ∀ (vs cur : List Value) (k : Nat), (splice cur k vs).length = cur.length
  | [], _, _ => rfl
  | v :: vs, cur, k => by simp [splice, splice_length vs]

def spliceA (cur : List A) (k : Nat) : List A → List A
  | [] => cur
  | v :: vs => spliceA (cur.set k v) (k + 1) vs
theorem spliceA_length : ∀ (vs cur : List A) (k : Nat), (spliceA cur k vs).length = cur.length
  | [], _, _ => rfl
  | v :: vs, cur, k => by simp [spliceA, spliceA_length vs]
theorem All2.splice {R : A → Value → Prop} : ∀ {vs : List A} {us : List Value} {cur : List A} {cur' : List Value} (k : Nat), All2 R cur cur' → All2 R vs us → All2 R (spliceA cur k vs) (Fl.splice cur' k us)
  | [], [], _, _, _, h, _ => h
  | _ :: _, _ :: _, _, _, k, h, h2 => All2.splice (k + 1) (h.set k h2.1) h2.2
  | [], _ :: _, _, _, _, _, h => h.elim
  | _ :: _, [], _, _, _, _, h => h.elim
theorem mem_splice : ∀ (vs cur : List Value) (k : Nat) (p : Value → Prop), (∀ v ∈ cur, p v) → (∀ v ∈ vs, p v) → ∀ v ∈ splice cur k vs, p v
  | [], _, _, _, h, _ => h
  | x :: vs, cur, k, p, h, h2 => mem_splice vs (cur.set k x) (k + 1) p (fun v hv => by
      rcases List.mem_or_eq_of_mem_set hv with hv | rfl
      · exact h v hv
      · exact h2 _ List.mem_cons_self) fun v hv => h2 v (List.mem_cons_of_mem _ hv)

/-- An object is laid anew in its block. -/
theorem InvH.upd {M : Mem} {ι : Iota} {H : List (Nat × Ob)} {nx : Nat} {w : World} (h : InvH M ι H nx w) {k o b : Nat} {ob ob' : Ob} {x : Value × Nat} (hk : H[k]? = some (o, ob)) (hx : ι o = some x) (hb : blk x.1 = some b) {obj : Obj} (hr : RepOb M ι (setBlk w b obj) x ob') :
    InvH M ι (H.set k (o, ob')) nx (setBlk w b obj) := by
  have hkl : k < H.length := by
    rcases Nat.lt_or_ge k H.length with h' | h'
    · exact h'
    · simp [List.getElem?_eq_none h'] at hk
  have hHk : H[k] = (o, ob) := by rw [List.getElem?_eq_getElem hkl] at hk; simpa using hk
  have hsep := List.pairwise_iff_getElem.1 h.sep
  have other : ∀ i (hi : i < H.length), i ≠ k → ∀ y, ι H[i].1 = some y → blk y.1 ≠ some b := by
    intro i hi hne y hy he
    rcases Nat.lt_or_gt_of_ne hne with hlt | hgt
    · exact hsep i k hi hkl hlt y x b hy (by rw [hHk]; exact hx) he hb
    · exact hsep k i hkl hi hgt x y b (by rw [hHk]; exact hx) hy hb he
  refine ⟨h.dom, h.one, fun p hp => ?_, ?_, fun b' k' u hu => ?_, fun p hp => ?_⟩
  · obtain ⟨i, hi, rfl⟩ := List.getElem_of_mem hp
    simp only [List.length_set] at hi
    by_cases hik : i = k
    · subst hik; simp only [List.getElem_set_self]; exact ⟨x, hx, hr⟩
    · rw [List.getElem_set_ne (Ne.symm hik)]
      obtain ⟨y, hy, hob⟩ := h.ob _ (List.getElem_mem hi)
      exact ⟨y, hy, hob.mono (.refl _) (.refl _) fun b' hb' => setBlk_other fun e => other i hi hik y hy (e ▸ hb')⟩
  · rw [List.pairwise_iff_getElem]
    intro i j hi hj hij
    simp only [List.length_set] at hi hj
    have e1 : ((H.set k (o, ob'))[i]'(by simpa using hi)).1 = H[i].1 := by
      by_cases hik : i = k
      · subst hik; simp [hHk]
      · rw [List.getElem_set_ne (Ne.symm hik)]
    have e2 : ((H.set k (o, ob'))[j]'(by simpa using hj)).1 = H[j].1 := by
      by_cases hik : j = k
      · subst hik; simp [hHk]
      · rw [List.getElem_set_ne (Ne.symm hik)]
    rw [e1, e2]
    exact hsep i j hi hj hij
  · obtain ⟨h1, h2⟩ := h.mem b' k' u hu
    refine ⟨?_, h2⟩
    have hne : b' ≠ b := fun e => by
      have := h.free _ (getElem?_mem hk) x b hx hb k'
      rw [e, this] at hu; cases hu
    simp only [World.cell?, setBlk_other hne] at h1 ⊢
    exact h1
  · obtain ⟨i, hi, rfl⟩ := List.getElem_of_mem hp
    simp only [List.length_set] at hi
    by_cases hik : i = k
    · subst hik; simp only [List.getElem_set_self]
      exact fun y b' hy hb' => h.free (o, ob) (getElem?_mem hk) y b' hy hb'
    · rw [List.getElem_set_ne (Ne.symm hik)]
      exact h.free _ (List.getElem_mem hi)

theorem own_set {X : Nat → Prop} {ι : Iota} {B : Nat} {H : List (Nat × Ob)} {k o : Nat} {ob ob' : Ob} (hk : H[k]? = some (o, ob)) (h : ∀ p ∈ H, ∀ x b, ι p.1 = some x → blk x.1 = some b → X b ∨ B ≤ b) :
    ∀ p ∈ H.set k (o, ob'), ∀ x b, ι p.1 = some x → blk x.1 = some b → X b ∨ B ≤ b := by
  intro p hp
  rcases List.mem_or_eq_of_mem_set hp with hp | rfl
  · exact h p hp
  · exact h (o, ob) (getElem?_mem hk)

theorem Kept.setBlk {X : Nat → Prop} {w0 w : World} (h : Kept X w0 w) {b : Nat} {o : Obj} (hb : X b ∨ w0.heap.size ≤ b) : Kept X w0 (setBlk w b o) :=
  h.trans (Y := fun k => k = b) ⟨rfl, rfl, rfl, by rw [setBlk_size]; exact Nat.le_refl _, fun k _ hk => setBlk_other hk⟩ fun i hi hy => by subst hy; exact hb.resolve_right (by omega)

/-- An object of a state is laid anew; nothing is written into the frame. -/
theorem Inv.upd {G : Gh} {M : Mem} {ι : Iota} {st : St} {a : Act} {w : World} (h : Inv G M ι st a w) {k o b : Nat} {ob ob' : Ob} {x : Value × Nat} (hk : st.H[k]? = some (o, ob)) (hx : ι o = some x) (hb : blk x.1 = some b) {obj : Obj} (hr : RepOb M ι (setBlk w b obj) x ob')
    (d : Option Nat) : Inv G M ι ({ st with H := st.H.set k (o, ob') }.unset d) (a.put d undef) (setBlk w b obj) := by
  have hk' := h.kept.setBlk (b := b) (o := obj) (h.own _ (getElem?_mem hk) x b hx hb)
  have := h.core.upd hk hx hb hr
  have key : Inv G M ι { st with H := st.H.set k (o, ob') } a (setBlk w b obj) := ⟨this, h.fr, h.size, h.defers, h.M0, h.ι0, hk', own_set hk h.own, h.past⟩
  exact key.unput d undef

def V1.cells : V1 → List A
  | .one a => [a]
  | .agg as => as
theorem repV1_cells {M : Mem} {ι : Iota} {v : V1} {u : Value} (h : RepV1 M ι v u) (h1 : ∀ a, v = .one a → u.cells = #[u]) : All2 (RepA M ι) v.cells u.cells.toList := by
  cases v with
  | one a => rw [h1 a rfl]; exact ⟨h, trivial⟩
  | agg as => obtain ⟨us, rfl, h2⟩ := h; simpa [Value.cells, V1.cells] using h2

section
variable {P : Program} {st : St} {d : Option Nat} {ty : TypeId} {pos : String} {aft : Array Edge} {g : Option (Nat × Bool)}

/-- Values that fill one cell. -/
def C.one1 : C → Bool
  | .lit v => v.oneCell'
  | _ => true
def A.one1 : A → Bool
  | .c x => x.one1
  | _ => true
theorem oneCell_of {M : Mem} {ι : Iota} {a : A} {u : Value} (hw : ∀ o x, ι o = some x → x.1.oneCell' = true) (h : RepA M ι a u) (h1 : a.one1 = true) : u.oneCell' = true := by
  cases a with
  | c x => cases h with
    | lit v => exact h1
    | _ => rfl
  | obj o => obtain ⟨sz, h⟩ := h; exact hw _ _ h
  | ptr o i j => obtain ⟨v, sz, b, _, _, rfl⟩ := h; rfl
  | fn f caps => obtain ⟨us, rfl, _⟩ := h; rfl
  | sub o i n => obtain ⟨v, sz, _, _, p, c, rfl, _⟩ := h; rfl

/-- The cells of a value of a state fit single cells. -/
def V1.flat (v : V1) : Bool := match v with | .one a => a.one1 | .agg as => as.all A.one1
theorem val_cells {M : Mem} {ι : Iota} {H : List (Nat × Ob)} {nx : Nat} {w : World} (hi : InvH M ι H nx w) {v : V1} {u : Value} (h : RepV1 M ι v u) (hf : v.flat = true) :
    All2 (RepA M ι) v.cells u.cells.toList ∧ (∀ x ∈ u.cells.toList, x.oneCell' = true) ∧ u.cells.size = v.cells.length := by
  have key : ∀ as us, All2 (RepA M ι) as us → as.all A.one1 = true → ∀ x ∈ us, x.oneCell' = true := by
    intro as
    induction as with
    | nil => intro us h2 _ x hx; cases us with | nil => cases hx | cons => exact h2.elim
    | cons a as ih =>
      intro us h2 ha x hx
      cases us with
      | nil => cases hx
      | cons y us =>
        simp only [List.all_cons, Bool.and_eq_true] at ha
        rcases List.mem_cons.1 hx with rfl | hx
        · exact oneCell_of hi.one h2.1 ha.1
        · exact ih us h2.2 ha.2 x hx
  cases v with
  | one a =>
    have h1 := oneCell_of hi.one h hf
    have hc : u.cells = #[u] := by cases u <;> first | rfl | (simp [Value.oneCell'] at h1)
    rw [hc]
    exact ⟨⟨h, trivial⟩, by simpa using h1, rfl⟩
  | agg as =>
    obtain ⟨us, rfl, h2⟩ := h
    refine ⟨by simpa [Value.cells, V1.cells] using h2, ?_, ?_⟩
    · simpa [Value.cells] using key as us h2 hf
    · simpa [Value.cells, V1.cells] using h2.len.symm

theorem Does.storeB {t : TypeId} {x y : Operand} {o j n : Nat} {e : TypeId} {cs : List A} {v : V1} (k : Nat) (hk : st.H[k]? = some (o, .box e cs)) (hx : st.ev x = some (.one (.ptr o 0 j))) (hy : st.ev y = some (.v v)) (hf : v.flat = true)
    (hsz : ∀ w, (sizeOf t).run P w = .ok n w) (hn : v.cells.length = n) (hj : j + n ≤ cs.length) :
    Does P ⟨none, .store t x y, ty, pos, aft, g⟩ st (· = { st with H := st.H.set k (o, .box e (spliceA cs j v.cells)) }) := by
  refine ⟨fun G M ι a w hi K Q hK => ?_⟩
  obtain ⟨q, hq, b, xs, he, hh, h2, h1⟩ := hi.core.ob _ (getElem?_mem hk)
  obtain ⟨v', sz, b', h3, h4, h5⟩ := hi.ev hx
  rw [hq] at h3; cases h3
  cases he
  simp [blk] at h4; subst h4
  obtain ⟨c1, c2, c3⟩ := val_cells hi.core (hi.ev hy) hf
  have hrun := run_storeCells (P := P) (a.eval y).cells.toList w xs e (0, 0) b j 0 hh (Clear.zero _) (by rw [← h2.len]; simp; omega) c2
  simp only [Nat.zero_mul, Nat.zero_add] at h5
  have : (execOp a.eval ⟨none, .store t x y, ty, pos, aft, g⟩).run P w = .ok .skip (setBlk w b (.cells (splice xs (j + 0) (a.eval y).cells.toList).toArray e (0, 0))) := by
    simp [execOp, h5, Instr.storeAt, Instr.sureAddr, storeVar, hsz, c3, hn, hrun]
  simp only [Oper.wp, this, Oper.upon]
  refine hK _ M ι _ _ rfl (hi.upd (ob := .box e cs) (ob' := .box e (spliceA cs j v.cells)) (obj := .cells (splice xs (j + 0) (a.eval y).cells.toList).toArray e (0, 0)) (d := none) hk hq rfl ⟨b, _, ?_, setBlk_at hh, h2.splice j c1, mem_splice _ _ _ _ h1 c2⟩)
  simp [spliceA_length]

theorem flatten_set {sz : Nat} : ∀ {es : List (List A)} {i j : Nat} {el : List A} (vs : List A), (∀ y ∈ es, y.length = sz) → es[i]? = some el → j + vs.length ≤ sz → (es.set i (spliceA el j vs)).flatten = spliceA es.flatten (i * sz + j) vs := by
  have app : ∀ (vs xs ys : List A) (j : Nat), j + vs.length ≤ xs.length → spliceA (xs ++ ys) j vs = spliceA xs j vs ++ ys := by
    intro vs
    induction vs with
    | nil => intro xs ys j _; rfl
    | cons v vs ih =>
      intro xs ys j h
      simp only [List.length_cons] at h
      simp only [spliceA]
      rw [List.set_append_left _ _ (by omega)]
      exact ih _ _ _ (by simp; omega)
  have app2 : ∀ (vs xs ys : List A) (j : Nat), spliceA (xs ++ ys) (xs.length + j) vs = xs ++ spliceA ys j vs := by
    intro vs
    induction vs with
    | nil => intro xs ys j; rfl
    | cons v vs ih =>
      intro xs ys j
      simp only [spliceA]
      rw [List.set_append_right _ _ (by omega), show xs.length + j - xs.length = j by omega, Nat.add_assoc]
      exact ih _ _ _
  intro es
  induction es with
  | nil => intro i j el vs _ h _; simp at h
  | cons y es ih =>
    intro i j el vs hs h hl
    have hy := hs y List.mem_cons_self
    cases i with
    | zero =>
      simp at h; subst h
      simp only [List.set_cons_zero, List.flatten_cons, Nat.zero_mul, Nat.zero_add]
      rw [app _ _ _ _ (by omega)]
    | succ i =>
      simp only [List.set_cons_succ, List.flatten_cons]
      rw [ih vs (fun z hz => hs z (List.mem_cons_of_mem _ hz)) (by simpa using h) hl, show (i + 1) * sz + j = y.length + (i * sz + j) by rw [hy, Nat.succ_mul]; omega, app2]

theorem take_splice : ∀ (vs cur : List Value) (k n : Nat), k + vs.length ≤ n → (splice cur k vs).take n = splice (cur.take n) k vs
  | [], _, _, _, _ => rfl
  | v :: vs, cur, k, n, h => by
    simp only [List.length_cons] at h
    simp only [splice]
    rw [take_splice vs _ _ _ (by omega), List.take_set]

theorem drop_splice : ∀ (vs cur : List Value) (o k : Nat), (splice cur (o + k) vs).drop o = splice (cur.drop o) k vs
  | [], _, _, _ => rfl
  | v :: vs, cur, o, k => by
    simp only [splice]
    rw [show o + k + 1 = o + (k + 1) by omega, drop_splice vs _ o (k + 1), List.drop_set, if_neg (by omega)]
    congr 2
    omega
theorem Does.storeR {t : TypeId} {x y : Operand} {o i j n sz0 : Nat} {e : TypeId} {es : List (List A)} {el : List A} {v : V1} (k : Nat) (hk : st.H[k]? = some (o, .row e sz0 es)) (hx : st.ev x = some (.one (.ptr o i j))) (hy : st.ev y = some (.v v)) (hf : v.flat = true)
    (hsz : ∀ w, (sizeOf t).run P w = .ok n w) (hn : v.cells.length = n) (hel : es[i]? = some el) (hj : j + n ≤ el.length) :
    Does P ⟨none, .store t x y, ty, pos, aft, g⟩ st (· = { st with H := st.H.set k (o, .row e sz0 (es.set i (spliceA el j v.cells))) }) := by
  refine ⟨fun G M ι a w hi K Q hK => ?_⟩
  obtain ⟨q, hq, xs, hz0, ho, hs, h2, h1⟩ := hi.core.ob _ (getElem?_mem hk)
  obtain ⟨v', sz, b', h3, h4, h5⟩ := hi.ev hx
  rw [hq] at h3; cases h3
  obtain ⟨c1, c2, c3⟩ := val_cells hi.core (hi.ev hy) hf
  have hlt : i < es.length := by
    rcases Nat.lt_or_ge i es.length with h | h
    · exact h
    · simp [List.getElem?_eq_none h] at hel
  have hsz' : el.length = sz := hs el (getElem?_mem hel)
  rcases ho.2 with ⟨g1, g2⟩ | ⟨b, off, cap, cur, g1, ⟨fz, g2, gz⟩, g3, g4, g5, g6⟩
  · omega
  · have g1' : v' = .slice (some ⟨b, off, none⟩) es.length cap := g1
    have g5' : off + cap * sz ≤ cur.size := g5
    have g6' : (cur.toList.drop off).take (es.length * sz) = xs := g6
    have hoff : offV v' = off := by rw [g1']; rfl
    rw [hoff] at h5
    have hbb : b' = b := by rw [g1'] at h4; simp [blk] at h4; exact h4.symm
    subst hbb
    have hin : i * sz + sz ≤ es.length * sz := by rw [← Nat.succ_mul]; exact Nat.mul_le_mul_right _ hlt
    have hin2 : es.length * sz ≤ cap * sz := Nat.mul_le_mul_right _ g3
    have hcl : (a.eval y).cells.toList.length = n := by simp [c3, hn]
    have hrun := run_storeCells (P := P) (a.eval y).cells.toList w cur.toList e fz b' (off + (i * sz + j)) 0 (by simpa using g2) (by simpa using gz) (by rw [hcl]; simp only [Array.length_toList]; omega) c2
    have : (execOp a.eval ⟨none, .store t x y, ty, pos, aft, g⟩).run P w = .ok .skip (setBlk w b' (.cells (splice cur.toList (off + (i * sz + j) + 0) (a.eval y).cells.toList).toArray e fz)) := by
      simp [execOp, h5, Instr.storeAt, Instr.sureAddr, storeVar, hsz, c3, hn, hrun]
    simp only [Oper.wp, this, Oper.upon]
    have htk : ((splice cur.toList (off + (i * sz + j)) (a.eval y).cells.toList).drop off).take (es.length * sz) = splice xs (i * sz + j) (a.eval y).cells.toList := by
      rw [drop_splice, take_splice _ _ _ _ (by rw [hcl]; omega), g6']
    refine hK _ M ι _ _ rfl (hi.upd (ob := .row e sz0 es) (ob' := .row e sz0 (es.set i (spliceA el j v.cells))) (obj := .cells (splice cur.toList (off + (i * sz + j) + 0) (a.eval y).cells.toList).toArray e fz) (d := none) hk hq h4 ⟨splice xs (i * sz + j) (a.eval y).cells.toList, hz0, ⟨?_, .inr ⟨b', off, cap, _, by simpa using g1', ⟨fz, setBlk_at g2, by simpa [splice_length] using gz⟩, by simpa using g3, g4, ?_, ?_⟩⟩, ?_, ?_, mem_splice _ _ _ _ h1 c2⟩)
    · rw [splice_length]; simpa using ho.1
    · simpa [splice_length] using g5'
    · simpa using htk
    · intro z hz
      rcases List.mem_or_eq_of_mem_set hz with hz | rfl
      · exact hs z hz
      · rw [spliceA_length]; exact hsz'
    · rw [flatten_set v.cells hs hel (by omega)]
      exact h2.splice _ c1

/-- A new object, its block laid. -/
theorem Inv.laid {G : Gh} {M : Mem} {ι : Iota} {st : St} {a : Act} {w : World} (h : Inv G M ι st a w) {x : Value × Nat} {ob : Ob} (o : Obj) (hx : blk x.1 = some w.heap.size) (h1 : x.1.oneCell' = true) (ho : ∀ ι', ILe ι ι' → RepOb M ι' (w.alloc o) x ob)
    {d : Option Nat} (hd : fits d st.n = true) {v : V} {u : Value} (hr : RepV M (iset ι st.nx x) v u) :
    Inv G M (iset ι st.nx x) ({ st with H := (st.nx, ob) :: st.H, nx := st.nx + 1 }.set d v) (a.put d u) (w.alloc o) := by
  have hle := ile_iset h.core.dom x
  have hlt : ∀ p ∈ st.H, p.1 < st.nx := fun p hp => let ⟨y, hy, _⟩ := h.core.ob p hp; h.core.dom _ _ hy
  refine h.step (st' := { st with H := (st.nx, ob) :: st.H, nx := st.nx + 1 }) (.refl _) hle (fits_spec hd) hr rfl rfl (h.core.laid o hx h1 (ho _ hle)) (h.kept.alloc o) (fun p hp => ?_) ⟨h.past.1.iset h.past.2 x, Nat.le_succ_of_le h.past.2⟩
  rcases List.mem_cons.1 hp with rfl | hp
  · intro y b hy hb
    simp only [iset, if_true, Option.some.injEq] at hy; subst hy
    rw [hx] at hb; cases hb
    exact .inr h.kept.size
  · intro y b hy hb
    have := hlt p hp
    simp only [iset] at hy
    rw [if_neg (by omega)] at hy
    exact h.own p hp y b hy hb

theorem alloc_at (w : World) (o : Obj) : (w.alloc o).heap[w.heap.size]? = some o := by
  show (w.heap.push o)[w.heap.size]? = _
  simp

theorem Does.box {t : TypeId} {x : Operand} {v : V1} (hx : st.ev x = some (.v v)) (hf : v.flat = true) (hd : fits d st.n = true := by rfl) :
    Does P ⟨d, .box t x, ty, pos, aft, g⟩ st (· = { st with H := (st.nx, .box t v.cells) :: st.H, nx := st.nx + 1 }.set d (.one (.ptr st.nx 0 0))) := by
  refine ⟨fun G M ι a w hi K Q hK => ?_⟩
  obtain ⟨c1, c2, c3⟩ := val_cells hi.core (hi.ev hx) hf
  have : (execOp a.eval ⟨d, .box t x, ty, pos, aft, g⟩).run P w = .ok (.value (.pointer (some ⟨w.heap.size, 0, none⟩))) (w.alloc (.cells (a.eval x).cells t (0, 0))) := by
    simp [execOp, Instr.box, newVar, newRow]
  simp only [Oper.wp, this, Oper.upon]
  refine hK _ M _ _ _ rfl (hi.laid (x := (.pointer (some ⟨w.heap.size, 0, none⟩), v.cells.length)) (ob := .box t v.cells) (.cells (a.eval x).cells t (0, 0)) rfl rfl (fun ι' hle => ⟨w.heap.size, _, rfl, ?_, c1.mono fun _ _ => RepA.mono (.refl _) hle, c2⟩) hd ⟨_, _, w.heap.size, by simp [iset]; exact ⟨rfl, rfl⟩, rfl, by simp⟩)
  rw [alloc_at]

theorem Does.alloc {t : TypeId} {z : Value} (hz : ∀ w, (zeroValue t).run P w = .ok z w) (hf : ∀ x ∈ z.cells.toList, x.oneCell' = true) (hd : fits d st.n = true := by rfl) :
    Does P ⟨d, .alloc t, ty, pos, aft, g⟩ st (· = { st with H := (st.nx, .box t (z.cells.toList.map fun x => .c (.lit x))) :: st.H, nx := st.nx + 1 }.set d (.one (.ptr st.nx 0 0))) := by
  refine ⟨fun G M ι a w hi K Q hK => ?_⟩
  have : (execOp a.eval ⟨d, .alloc t, ty, pos, aft, g⟩).run P w = .ok (.value (.pointer (some ⟨w.heap.size, 0, none⟩))) (w.alloc (.cells z.cells t (0, 0))) := by
    simp [execOp, Instr.alloc, newVar, newRow, hz]
  simp only [Oper.wp, this, Oper.upon]
  refine hK _ M _ _ _ rfl (hi.laid (x := (.pointer (some ⟨w.heap.size, 0, none⟩), (z.cells.toList.map fun x => A.c (.lit x)).length)) (ob := .box t (z.cells.toList.map fun x => A.c (.lit x))) (.cells z.cells t (0, 0)) rfl rfl (fun ι' hle => ⟨w.heap.size, _, rfl, ?_, All2.lits z.cells.toList, hf⟩) hd ⟨_, _, w.heap.size, by simp [iset]; exact ⟨rfl, rfl⟩, rfl, by simp⟩)
  rw [alloc_at]
end
end Go.Fl
