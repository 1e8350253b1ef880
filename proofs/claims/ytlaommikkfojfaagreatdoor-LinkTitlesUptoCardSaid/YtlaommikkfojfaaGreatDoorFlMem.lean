/- Steps over states: addresses, loads, stores, new variables. Lemmas alone. -/
import Derived.Test.YtlaommikkfojfaaGreatDoorFlStep
namespace Go.Fl
open Go

theorem addr_add (b k j : Nat) : (⟨b, k, none⟩ : Addr).add j = ⟨b, k + j, none⟩ := by
  unfold Addr.add
  split
  · subst j; rfl
  · rfl

theorem run_loadCellsFrom (P : Program) (w : World) (b k : Nat) : ∀ (us : List Value) (i : Nat) (acc : Array Value), (∀ j u, us[j]? = some u → w.cell? ⟨b, k + (i + j), none⟩ = some u) →
    (loadCellsFrom ⟨b, k, none⟩ i us.length acc).run P w = .ok (acc ++ us.toArray) w
  | [], i, acc, _ => by simp [loadCellsFrom]
  | u :: us, i, acc, h => by
    have h0 := h 0 u rfl
    simp only [Nat.add_zero] at h0
    have := run_loadCellsFrom P w b k us (i + 1) (acc.push u) fun j v hv => by
      have := h (j + 1) v (by simpa using hv)
      rwa [show i + 1 + j = i + (j + 1) by omega]
    simp only [List.length_cons, loadCellsFrom, Sem.run_bind, addr_add, run_load, h0, Result.andThen_ok, this]
    simp

theorem run_loadCells {P : Program} {w : World} {b k : Nat} {us : List Value} (h : ∀ (j : Nat) (u : Value), us[j]? = some u → w.cell? ⟨b, k + j, none⟩ = some u) :
    (loadCells ⟨b, k, none⟩ us.length).run P w = .ok us.toArray w := by
  have := run_loadCellsFrom P w b k us 0 #[] fun j u hu => by simpa using h j u hu
  simpa [loadCells] using this

/-- From the place that u points to the cells cs can be read. -/
def CellsAt (M : Mem) (ι : Iota) (S : World → Prop) (u : Value) (cs : List A) : Prop :=
  ∃ b k, u = .pointer (some ⟨b, k, none⟩) ∧ ∃ us, (∀ w, S w → ∀ (j : Nat) (x : Value), us[j]? = some x → w.cell? ⟨b, k + j, none⟩ = some x) ∧ All2 (RepA M ι) cs us

theorem run_loadVar_one {P : Program} {M : Mem} {ι : Iota} {S : World → Prop} {u : Value} {c : A} {cs : List A} {t : TypeId} (h : CellsAt M ι S u (c :: cs)) (hag : ∀ w, (isAgg t).run P w = .ok false w) :
    ∃ x, (∀ w, S w → (Instr.loadAt t u).run P w = .ok x w) ∧ RepA M ι c x := by
  obtain ⟨b, k, rfl, us, hu, h2⟩ := h
  cases us with
  | nil => exact h2.elim
  | cons x us =>
    refine ⟨x, fun w hw => ?_, h2.1⟩
    have h0 := hu w hw 0 x rfl
    simp only [Nat.add_zero] at h0
    simp [Instr.loadAt, Instr.sureAddr, loadVar, hag, h0]
theorem run_loadVar_agg {P : Program} {M : Mem} {ι : Iota} {S : World → Prop} {u : Value} {cs : List A} {t : TypeId} {n : Nat} (h : CellsAt M ι S u cs) (hn : n ≤ cs.length) (hag : ∀ w, (isAgg t).run P w = .ok true w) (hsz : ∀ w, (sizeOf t).run P w = .ok n w) :
    ∃ x, (∀ w, S w → (Instr.loadAt t u).run P w = .ok x w) ∧ RepV1 M ι (.agg (cs.take n)) x := by
  obtain ⟨b, k, rfl, us, hu, h2⟩ := h
  have hl := h2.len
  have h3 := h2.take n
  have hlen : (us.take n).length = n := by rw [List.length_take]; omega
  have hr := fun w hw => run_loadCells (P := P) (w := w) (b := b) (k := k) (us := us.take n) fun j x hx => hu w hw j x (by
    rw [List.getElem?_take] at hx
    split at hx
    · exact hx
    · cases hx)
  rw [hlen] at hr
  exact ⟨.agg (us.take n).toArray, fun w hw => by simp [Instr.loadAt, Instr.sureAddr, loadVar, hag, hsz, hr w hw], us.take n, rfl, h3⟩

theorem getElem?_flatten {α : Type} {sz : Nat} : ∀ {es : List (List α)} {i j : Nat} {e : List α} {x : α}, (∀ y ∈ es, y.length = sz) → es[i]? = some e → e[j]? = some x → es.flatten[i * sz + j]? = some x
  | y :: es, 0, j, e, x, hs, h1, h2 => by
    simp at h1; subst h1
    have hj : j < y.length := by
      rcases Nat.lt_or_ge j y.length with h | h
      · exact h
      · simp [List.getElem?_eq_none h] at h2
    simp only [List.flatten_cons, Nat.zero_mul, Nat.zero_add]
    rw [List.getElem?_append_left hj]; exact h2
  | y :: es, i + 1, j, e, x, hs, h1, h2 => by
    have hy := hs y List.mem_cons_self
    have := getElem?_flatten (es := es) (i := i) (j := j) (fun z hz => hs z (List.mem_cons_of_mem _ hz)) (by simpa using h1) h2
    simp only [List.flatten_cons]
    rw [List.getElem?_append_right (by rw [hy, Nat.succ_mul]; omega), hy, Nat.succ_mul]
    rwa [show i * sz + sz + j - sz = i * sz + j by omega]
  | [], _, _, _, _, _, h1, _ => by simp at h1

theorem flatten_drop {α : Type} {sz : Nat} : ∀ {es : List (List α)} {i : Nat}, (∀ y ∈ es, y.length = sz) → es.flatten.drop (i * sz) = (es.drop i).flatten
  | [], i, _ => by simp
  | _ :: _, 0, _ => by simp
  | y :: es, i + 1, h => by
    have hy := h y List.mem_cons_self
    have := flatten_drop (es := es) (i := i) fun z hz => h z (List.mem_cons_of_mem _ hz)
    simp only [List.flatten_cons, List.drop_succ_cons]
    rw [← this, show (i + 1) * sz = y.length + i * sz by rw [hy, Nat.succ_mul]; omega, List.drop_append]
    simp

theorem cellsAt_rp {G : Gh} {M : Mem} {ι : Iota} {st : St} {a : Act} {w : World} (_hi : Inv G M ι st a w) {cs : List C} {u : Value} (h : RepC M (.rp cs) u) : CellsAt M ι (Same M ι st.H w) u (cs.map .c) := by
  cases h with
  | rp cs b off f hu hr =>
    refine ⟨b, off, rfl, (List.range cs.length).map f, fun w' hw j x hx => ?_, ?_⟩
    · rw [List.getElem?_map] at hx
      rcases Nat.lt_or_ge j cs.length with hj | hj
      · rw [List.getElem?_range hj] at hx
        simp at hx; subst hx
        exact hw.1 _ _ _ (hu j _ (List.getElem?_eq_getElem hj))
      · rw [List.getElem?_eq_none (by simpa using hj)] at hx; cases hx
    · refine All2.of_get (by simp) fun i x v hx hv => ?_
      rw [List.getElem?_map] at hx hv
      cases hc : cs[i]? with
      | none => rw [hc] at hx; cases hx
      | some c =>
        rw [hc] at hx; simp at hx; subst hx
        have hlt : i < cs.length := by
          rcases Nat.lt_or_ge i cs.length with h | h
          · exact h
          · simp [List.getElem?_eq_none h] at hc
        rw [List.getElem?_range hlt] at hv; simp at hv; subst hv
        exact hr i c hc

theorem getElem?_mem {α : Type} {l : List α} {i : Nat} {x : α} (h : l[i]? = some x) : x ∈ l := List.mem_of_getElem? h

theorem cellsAt_box {M : Mem} {ι : Iota} {H : List (Nat × Ob)} {nx : Nat} {w : World} (hi : InvH M ι H nx w) {o k j : Nat} {e : TypeId} {cs : List A} (hk : H[k]? = some (o, .box e cs)) {u : Value} (hp : PtrTo ι o 0 j u) : CellsAt M ι (Same M ι H w) u (cs.drop j) := by
  obtain ⟨x, hx, b, xs, he, hh, h2, _⟩ := hi.ob _ (getElem?_mem hk)
  obtain ⟨v, sz, b', h1, h3, rfl⟩ := hp
  rw [hx] at h1; cases h1
  cases he
  simp [blk] at h3; subst h3
  refine ⟨b, j, by simp, xs.drop j, fun w' hw i y hy => ?_, h2.drop j⟩
  rw [List.getElem?_drop] at hy
  have hh' := (hw.2 _ (getElem?_mem hk) _ b hx rfl).trans hh
  simp [World.cell?, hh', hy]

theorem owns_cell {w : World} {e : TypeId} {sz n : Nat} {v : Value} {xs : List Value} (h : Owns w e sz v n xs) {b : Nat} (hb : blk v = some b) {i : Nat} {x : Value} (hx : xs[i]? = some x) : w.cell? ⟨b, offV v + i, none⟩ = some x := by
  rcases h.2 with ⟨rfl, _⟩ | ⟨g, off, cap, cur, rfl, ⟨fz, hh, _⟩, _, _, _, rfl⟩
  · simp [blk] at hb
  · simp [blk] at hb; subst hb
    rw [List.getElem?_take] at hx
    split at hx
    · simp [World.cell?, hh]; simpa using hx
    · cases hx

theorem cellsAt_row {M : Mem} {ι : Iota} {H : List (Nat × Ob)} {nx : Nat} {w : World} (hi : InvH M ι H nx w) {o k i j sz0 : Nat} {e : TypeId} {es : List (List A)} {el : List A} (hk : H[k]? = some (o, .row e sz0 es)) (he : es[i]? = some el) {u : Value} (hp : PtrTo ι o i j u) :
    CellsAt M ι (Same M ι H w) u (el.drop j) := by
  obtain ⟨x, hx, xs, _, ho, hs, h2, _⟩ := hi.ob _ (getElem?_mem hk)
  obtain ⟨v, sz, b, h1, h3, rfl⟩ := hp
  rw [hx] at h1; cases h1
  have hel : el.length = sz := hs el (getElem?_mem he)
  have hfl : el.drop j = ((es.flatten.drop (i * sz + j)).take (sz - j)) := by
    rw [← List.drop_drop, flatten_drop hs]
    have : es.drop i = el :: es.drop (i + 1) := by
      have hlt : i < es.length := by
        rcases Nat.lt_or_ge i es.length with h | h
        · exact h
        · simp [List.getElem?_eq_none h] at he
      rw [List.drop_eq_getElem_cons hlt]
      rw [List.getElem?_eq_getElem hlt] at he
      simp at he; rw [he]
    rw [this, List.flatten_cons, List.drop_append, List.take_append]
    have : (el.drop j).length = sz - j := by simp [hel]
    rw [this]
    simp only [hel, Nat.sub_self, List.take_zero, List.append_nil]
    rw [List.take_of_length_le (by rw [this]; exact Nat.le_refl _)]
  refine ⟨b, offV v + (i * sz + j), rfl, (xs.drop (i * sz + j)).take (sz - j), fun w' hw q y hy => ?_, ?_⟩
  · rw [List.getElem?_take] at hy
    split at hy
    · rw [List.getElem?_drop] at hy
      have := owns_cell (ho.same fun b' hb' => hw.2 _ (getElem?_mem hk) _ b' hx hb') h3 hy
      rwa [← Nat.add_assoc] at this
    · cases hy
  · rw [hfl]; exact (h2.drop _).take _

section
variable {P : Program} {st : St} {d : Option Nat} {ty : TypeId} {pos : String} {aft : Array Edge} {g : Option (Nat × Bool)}

/-- The cells that an address leads to, in a state. -/
def Leads (st : St) (a : A) (cs : List A) : Prop :=
  ∀ G M ι ac w, Inv G M ι st ac w → ∀ u, RepA M ι a u → CellsAt M ι (Same M ι st.H w) u cs
theorem Leads.rp {cs : List C} : Leads st (.c (.rp cs)) (cs.map .c) := fun _ _ _ _ _ hi _ h => cellsAt_rp hi h
theorem Leads.box {o j : Nat} {e : TypeId} {cs : List A} (k : Nat) (hk : st.H[k]? = some (o, .box e cs)) : Leads st (.ptr o 0 j) (cs.drop j) := fun _ _ _ _ _ hi _ h => cellsAt_box hi.core hk h
theorem Leads.row {o i j sz0 : Nat} {e : TypeId} {es : List (List A)} {el : List A} (k : Nat) (hk : st.H[k]? = some (o, .row e sz0 es)) (he : es[i]? = some el) : Leads st (.ptr o i j) (el.drop j) := fun _ _ _ _ _ hi _ h => cellsAt_row hi.core hk he h

theorem Flo.load1 {t : TypeId} {x : Operand} {a c : A} {cs : List A} (hx : st.ev x = some (.one a)) (hl : Leads st a (c :: cs)) (hag : ∀ w, (isAgg t).run P w = .ok false w) : Flo P ⟨d, .load t x, ty, pos, aft, g⟩ st (.one c) :=
  fun G M ι ac w hi => by
    obtain ⟨v, h1, h2⟩ := run_loadVar_one (hl G M ι ac w hi _ (hi.ev hx)) hag
    exact ⟨v, fun w' hw => by simp [execOp, h1 w' hw], h2⟩
theorem Does.load1 {t : TypeId} {x : Operand} {a c : A} {cs : List A} (hx : st.ev x = some (.one a)) (hl : Leads st a (c :: cs)) (hag : ∀ w, (isAgg t).run P w = .ok false w) (hd : fits d st.n = true := by rfl) :
    Does P ⟨d, .load t x, ty, pos, aft, g⟩ st (· = st.set d (.one c)) := (Flo.load1 hx hl hag).does hd
theorem Flo.loadN {t : TypeId} {x : Operand} {a : A} {cs : List A} {n : Nat} (hx : st.ev x = some (.one a)) (hl : Leads st a cs) (hag : ∀ w, (isAgg t).run P w = .ok true w) (hsz : ∀ w, (sizeOf t).run P w = .ok n w) (hn : n ≤ cs.length) : Flo P ⟨d, .load t x, ty, pos, aft, g⟩ st (.agg (cs.take n)) :=
  fun G M ι ac w hi => by
    obtain ⟨v, h1, h2⟩ := run_loadVar_agg (hl G M ι ac w hi _ (hi.ev hx)) hn hag hsz
    exact ⟨v, fun w' hw => by simp [execOp, h1 w' hw], h2⟩
theorem Does.loadN {t : TypeId} {x : Operand} {a : A} {cs : List A} {n : Nat} (hx : st.ev x = some (.one a)) (hl : Leads st a cs) (hag : ∀ w, (isAgg t).run P w = .ok true w) (hsz : ∀ w, (sizeOf t).run P w = .ok n w) (hn : n ≤ cs.length) (hd : fits d st.n = true := by rfl) :
    Does P ⟨d, .load t x, ty, pos, aft, g⟩ st (· = st.set d (.agg (cs.take n))) := (Flo.loadN hx hl hag hsz hn).does hd
theorem Flo.loadB1 {t : TypeId} {x : Operand} {o j : Nat} {e : TypeId} {cs : List A} {c : A} (hx : st.ev x = some (.one (.ptr o 0 j))) (k : Nat) (hk : st.H[k]? = some (o, .box e cs)) (hc : cs[j]? = some c) (hag : ∀ w, (isAgg t).run P w = .ok false w) : Flo P ⟨d, .load t x, ty, pos, aft, g⟩ st (.one c) :=
  by
  have hlt : j < cs.length := by
    rcases Nat.lt_or_ge j cs.length with h | h
    · exact h
    · simp [List.getElem?_eq_none h] at hc
  have hcc : cs[j] = c := by rw [List.getElem?_eq_getElem hlt] at hc; simpa using hc
  have hl := Leads.box (st := st) (o := o) (j := j) k hk
  rw [List.drop_eq_getElem_cons hlt, hcc] at hl
  exact Flo.load1 hx hl hag
theorem Does.loadB1 {t : TypeId} {x : Operand} {o j : Nat} {e : TypeId} {cs : List A} {c : A} (hx : st.ev x = some (.one (.ptr o 0 j))) (k : Nat) (hk : st.H[k]? = some (o, .box e cs)) (hc : cs[j]? = some c) (hag : ∀ w, (isAgg t).run P w = .ok false w) (hd : fits d st.n = true := by rfl) :
    Does P ⟨d, .load t x, ty, pos, aft, g⟩ st (· = st.set d (.one c)) := (Flo.loadB1 hx k hk hc hag).does hd
theorem Flo.loadBN {t : TypeId} {x : Operand} {o j n : Nat} {e : TypeId} {cs : List A} (hx : st.ev x = some (.one (.ptr o 0 j))) (k : Nat) (hk : st.H[k]? = some (o, .box e cs)) (hag : ∀ w, (isAgg t).run P w = .ok true w) (hsz : ∀ w, (sizeOf t).run P w = .ok n w) (hn : n ≤ (cs.drop j).length) : Flo P ⟨d, .load t x, ty, pos, aft, g⟩ st (.agg ((cs.drop j).take n)) :=
  Flo.loadN hx (Leads.box k hk) hag hsz hn
theorem Does.loadBN {t : TypeId} {x : Operand} {o j n : Nat} {e : TypeId} {cs : List A} (hx : st.ev x = some (.one (.ptr o 0 j))) (k : Nat) (hk : st.H[k]? = some (o, .box e cs)) (hag : ∀ w, (isAgg t).run P w = .ok true w) (hsz : ∀ w, (sizeOf t).run P w = .ok n w) (hn : n ≤ (cs.drop j).length) (hd : fits d st.n = true := by rfl) :
    Does P ⟨d, .load t x, ty, pos, aft, g⟩ st (· = st.set d (.agg ((cs.drop j).take n))) := (Flo.loadBN hx k hk hag hsz hn).does hd
theorem Flo.loadP1 {t : TypeId} {x : Operand} {cs : List C} {c : C} (hx : st.ev x = some (.c (.rp cs))) (hc : cs[0]? = some c) (hag : ∀ w, (isAgg t).run P w = .ok false w) : Flo P ⟨d, .load t x, ty, pos, aft, g⟩ st (.c c) :=
  by
  cases cs with
  | nil => simp at hc
  | cons c' cs =>
    simp at hc; subst hc
    exact Flo.load1 hx (Leads.rp (cs := c' :: cs)) hag
theorem Does.loadP1 {t : TypeId} {x : Operand} {cs : List C} {c : C} (hx : st.ev x = some (.c (.rp cs))) (hc : cs[0]? = some c) (hag : ∀ w, (isAgg t).run P w = .ok false w) (hd : fits d st.n = true := by rfl) :
    Does P ⟨d, .load t x, ty, pos, aft, g⟩ st (· = st.set d (.c c)) := (Flo.loadP1 hx hc hag).does hd
theorem Flo.loadPN {t : TypeId} {x : Operand} {cs : List C} {n : Nat} (hx : st.ev x = some (.c (.rp cs))) (hag : ∀ w, (isAgg t).run P w = .ok true w) (hsz : ∀ w, (sizeOf t).run P w = .ok n w) (hn : n ≤ cs.length) : Flo P ⟨d, .load t x, ty, pos, aft, g⟩ st (.agg ((cs.take n).map .c)) :=
  by
  rw [List.map_take]
  exact Flo.loadN hx (Leads.rp (cs := cs)) hag hsz (by simpa using hn)
theorem Does.loadPN {t : TypeId} {x : Operand} {cs : List C} {n : Nat} (hx : st.ev x = some (.c (.rp cs))) (hag : ∀ w, (isAgg t).run P w = .ok true w) (hsz : ∀ w, (sizeOf t).run P w = .ok n w) (hn : n ≤ cs.length) (hd : fits d st.n = true := by rfl) :
    Does P ⟨d, .load t x, ty, pos, aft, g⟩ st (· = st.set d (.agg ((cs.take n).map .c))) := (Flo.loadPN hx hag hsz hn).does hd
theorem Flo.loadR1 {t : TypeId} {x : Operand} {o i j sz0 : Nat} {e : TypeId} {es : List (List A)} {el : List A} {c : A} (hx : st.ev x = some (.one (.ptr o i j))) (k : Nat) (hk : st.H[k]? = some (o, .row e sz0 es)) (he : es[i]? = some el) (hc : el[j]? = some c) (hag : ∀ w, (isAgg t).run P w = .ok false w) : Flo P ⟨d, .load t x, ty, pos, aft, g⟩ st (.one c) :=
  by
  have hlt : j < el.length := by
    rcases Nat.lt_or_ge j el.length with h | h
    · exact h
    · simp [List.getElem?_eq_none h] at hc
  have hcc : el[j] = c := by rw [List.getElem?_eq_getElem hlt] at hc; simpa using hc
  have hl := Leads.row (st := st) (o := o) (i := i) (j := j) k hk he
  rw [List.drop_eq_getElem_cons hlt, hcc] at hl
  exact Flo.load1 hx hl hag
theorem Does.loadR1 {t : TypeId} {x : Operand} {o i j sz0 : Nat} {e : TypeId} {es : List (List A)} {el : List A} {c : A} (hx : st.ev x = some (.one (.ptr o i j))) (k : Nat) (hk : st.H[k]? = some (o, .row e sz0 es)) (he : es[i]? = some el) (hc : el[j]? = some c) (hag : ∀ w, (isAgg t).run P w = .ok false w) (hd : fits d st.n = true := by rfl) :
    Does P ⟨d, .load t x, ty, pos, aft, g⟩ st (· = st.set d (.one c)) := (Flo.loadR1 hx k hk he hc hag).does hd
theorem Flo.loadRN {t : TypeId} {x : Operand} {o i j n sz0 : Nat} {e : TypeId} {es : List (List A)} {el : List A} (hx : st.ev x = some (.one (.ptr o i j))) (k : Nat) (hk : st.H[k]? = some (o, .row e sz0 es)) (he : es[i]? = some el) (hag : ∀ w, (isAgg t).run P w = .ok true w) (hsz : ∀ w, (sizeOf t).run P w = .ok n w) (hn : n ≤ (el.drop j).length) : Flo P ⟨d, .load t x, ty, pos, aft, g⟩ st (.agg ((el.drop j).take n)) :=
  Flo.loadN hx (Leads.row k hk he) hag hsz hn
theorem Does.loadRN {t : TypeId} {x : Operand} {o i j n sz0 : Nat} {e : TypeId} {es : List (List A)} {el : List A} (hx : st.ev x = some (.one (.ptr o i j))) (k : Nat) (hk : st.H[k]? = some (o, .row e sz0 es)) (he : es[i]? = some el) (hag : ∀ w, (isAgg t).run P w = .ok true w) (hsz : ∀ w, (sizeOf t).run P w = .ok n w) (hn : n ≤ (el.drop j).length) (hd : fits d st.n = true := by rfl) :
    Does P ⟨d, .load t x, ty, pos, aft, g⟩ st (· = st.set d (.agg ((el.drop j).take n))) := (Flo.loadRN hx k hk he hag hsz hn).does hd
/-- Where a field lies. -/
def FieldOff (P : Program) (s : TypeId) (f off : Nat) : Prop := ∃ fs fld, P.underlying s = some (.struct fs) ∧ fs[f]? = some fld ∧ fld.offset = off ∧ ∃ n, n ≠ 0 ∧ ∀ w, (sizeOf fld.type).run P w = .ok n w

theorem run_fieldAt {P : Program} {s : TypeId} {f off : Nat} (h : FieldOff P s f off) (b k : Nat) (w : World) : (Instr.fieldAt s (.pointer (some ⟨b, k, none⟩)) f).run P w = .ok (.pointer (some ⟨b, k + off, none⟩)) w := by
  obtain ⟨fs, fld, h1, h2, rfl, n, hn, hsz⟩ := h
  simp [Instr.fieldAt, run_underlying h1, h2, Instr.sureAddr, fieldPlace, hsz, hn, addr_add]

theorem Flo.fieldP {s : TypeId} {x : Operand} {o i j f off : Nat} (hf : FieldOff P s f off) (hx : st.ev x = some (.one (.ptr o i j))) : Flo P ⟨d, .fieldAddr s x f, ty, pos, aft, g⟩ st (.one (.ptr o i (j + off))) :=
  fun G M ι ac w hi => by
    obtain ⟨v, sz, b, h1, h2, h3⟩ := hi.ev hx
    exact ⟨.pointer (some ⟨b, offV v + (i * sz + (j + off)), none⟩), fun _ _ => by simp [execOp, h3, run_fieldAt hf, Nat.add_assoc], v, sz, b, h1, h2, rfl⟩
theorem Does.fieldP {s : TypeId} {x : Operand} {o i j f off : Nat} (hf : FieldOff P s f off) (hx : st.ev x = some (.one (.ptr o i j))) (hd : fits d st.n = true := by rfl) :
    Does P ⟨d, .fieldAddr s x f, ty, pos, aft, g⟩ st (· = st.set d (.one (.ptr o i (j + off)))) := (Flo.fieldP hf hx).does hd
theorem repC_rp_drop {M : Mem} {cs : List C} {b k : Nat} (h : RepC M (.rp cs) (.pointer (some ⟨b, k, none⟩))) (off : Nat) : RepC M (.rp (cs.drop off)) (.pointer (some ⟨b, k + off, none⟩)) := by
  cases h with
  | rp cs b off' f hu hr =>
    exact .rp _ _ _ (fun j => f (off + j)) (fun j x hx => by rw [List.getElem?_drop] at hx; rw [Nat.add_assoc]; exact hu _ _ hx) (fun j x hx => by rw [List.getElem?_drop] at hx; exact hr _ _ hx)
theorem Flo.fieldR {s : TypeId} {x : Operand} {cs : List C} {f off : Nat} (hf : FieldOff P s f off) (hx : st.ev x = some (.c (.rp cs))) : Flo P ⟨d, .fieldAddr s x f, ty, pos, aft, g⟩ st (.c (.rp (cs.drop off))) :=
  fun G M ι ac w hi => by
    have h := hi.ev hx
    generalize hu : ac.eval x = u at h
    have h' := h
    cases h with
    | rp cs b off' q hq hr => exact ⟨.pointer (some ⟨b, off' + off, none⟩), fun _ _ => by simp [execOp, hu, run_fieldAt hf], repC_rp_drop h' off⟩
theorem Does.fieldR {s : TypeId} {x : Operand} {cs : List C} {f off : Nat} (hf : FieldOff P s f off) (hx : st.ev x = some (.c (.rp cs))) (hd : fits d st.n = true := by rfl) :
    Does P ⟨d, .fieldAddr s x f, ty, pos, aft, g⟩ st (· = st.set d (.c (.rp (cs.drop off)))) := (Flo.fieldR hf hx).does hd
theorem Flo.nilP {x : Operand} {o i j : Nat} (hx : st.ev x = some (.one (.ptr o i j))) : Flo P ⟨d, .nilCheck x, ty, pos, aft, g⟩ st (.one (.ptr o i j)) :=
  fun G M ι ac w hi => by
    have h := hi.ev hx
    obtain ⟨v, sz, b, h1, h2, h3⟩ := h
    exact ⟨.pointer (some ⟨b, offV v + (i * sz + j), none⟩), fun _ _ => by simp [execOp, h3], v, sz, b, h1, h2, rfl⟩
theorem Does.nilP {x : Operand} {o i j : Nat} (hx : st.ev x = some (.one (.ptr o i j))) (hd : fits d st.n = true := by rfl) :
    Does P ⟨d, .nilCheck x, ty, pos, aft, g⟩ st (· = st.set d (.one (.ptr o i j))) := (Flo.nilP hx).does hd
theorem Flo.nilR {x : Operand} {cs : List C} (hx : st.ev x = some (.c (.rp cs))) : Flo P ⟨d, .nilCheck x, ty, pos, aft, g⟩ st (.c (.rp cs)) :=
  fun G M ι ac w hi => by
    have h := hi.ev hx
    generalize hu : ac.eval x = u at h
    refine ⟨u, fun _ _ => ?_, h⟩
    cases h with
    | rp cs b off' q hq hr => simp [execOp, hu]
theorem Does.nilR {x : Operand} {cs : List C} (hx : st.ev x = some (.c (.rp cs))) (hd : fits d st.n = true := by rfl) :
    Does P ⟨d, .nilCheck x, ty, pos, aft, g⟩ st (· = st.set d (.c (.rp cs))) := (Flo.nilR hx).does hd
theorem lenR_key {x : Operand} {sz : Nat} {cl : Bool} {es : List (List C)} (hx : st.ev x = some (.c (.ro sz cl es))) {G : Gh} {M : Mem} {ι : Iota} {a : Act} {w : World} (hi : Inv G M ι st a w) : ∃ p c, a.eval x = .slice p es.length c ∧ es.length ≤ maxLen := by
  have h := hi.ev hx
  generalize a.eval x = u at h
  cases h with
  | nil sz cl p c hp hcl hm => exact ⟨p, c, rfl, Nat.zero_le _⟩
  | ro sz cl es b off c u hne hsz hc hm hcl hu hr => exact ⟨_, c, rfl, Nat.le_trans hc hm⟩
theorem Fact.lenR {x : Operand} {sz : Nat} {cl : Bool} {es : List (List C)} {n : Nat} (hx : st.ev x = some (.c (.ro sz cl es))) (hn : es.length = n) : Fact st (n ≤ maxLen) := fun _ _ _ _ _ hi => let ⟨_, _, _, h⟩ := lenR_key hx hi; hn ▸ h
theorem Flo.lenR {t e : TypeId} {x : Operand} {at' : Array TypeId} {sz : Nat} {cl : Bool} {es : List (List C)} (ht : P.underlying t = some (.slice e)) (hx : st.ev x = some (.c (.ro sz cl es))) (hat : at'[0]? = some t) {n : Nat} (hn : es.length = n) :
    Flo P ⟨d, .call { callee := .builtin .len, args := #[x], argTypes := at' }, ty, pos, aft, g⟩ st (.lit (.int .i64 n)) := by
  intro G M ι a w hi
  subst hn
  obtain ⟨p, c, he, hm⟩ := lenR_key hx hi
  exact ⟨.int .i64 es.length, fun w _ => by simp [execOp, resolve, invoke, builtin, Builtin.len_, hat, run_underlying ht, he, goInt], RepC.lit _⟩
theorem Flo.lenS {t : TypeId} {x : Operand} {at' : Array TypeId} {l : List UInt8} (ht : P.underlying t = some .string) (hx : st.ev x = some (.lit (str l))) (hat : at'[0]? = some t) : Flo P ⟨d, .call { callee := .builtin .len, args := #[x], argTypes := at' }, ty, pos, aft, g⟩ st (.lit (.int .i64 l.length)) :=
  fun G M ι a w hi => by
    have hs : (ByteArray.mk l.toArray).size = l.length := by simp [ByteArray.size]
    exact ⟨.int .i64 l.length, fun _ _ => by simp [execOp, resolve, invoke, builtin, Builtin.len_, hat, run_underlying ht, ev_lit hi hx, goInt, hs], RepC.lit _⟩
theorem Does.lenS {t : TypeId} {x : Operand} {at' : Array TypeId} {l : List UInt8} (ht : P.underlying t = some .string) (hx : st.ev x = some (.lit (str l))) (hat : at'[0]? = some t) (hd : fits d st.n = true := by rfl) :
    Does P ⟨d, .call { callee := .builtin .len, args := #[x], argTypes := at' }, ty, pos, aft, g⟩ st (· = st.set d (.lit (.int .i64 l.length))) := (Flo.lenS ht hx hat).does hd
theorem lenO_key {x : Operand} {o sz0 : Nat} {e' : TypeId} {es : List (List A)} {k : Nat} (hk : st.H[k]? = some (o, .row e' sz0 es)) (hx : st.ev x = some (.one (.obj o))) {G : Gh} {M : Mem} {ι : Iota} {a : Act} {w : World} (hi : Inv G M ι st a w) : ∃ p c, a.eval x = .slice p es.length c ∧ es.length ≤ maxLen := by
  obtain ⟨sz, h⟩ := hi.ev hx
  obtain ⟨y, hy, xs, _, ho, _⟩ := hi.core.ob _ (getElem?_mem hk)
  rw [h] at hy; cases hy
  rcases ho.2 with ⟨h1, h2⟩ | ⟨b, off, cap, cur, h1, _, h2, h3, _⟩
  · exact ⟨none, 0, by simpa [h2] using h1, by simp [h2]⟩
  · exact ⟨_, cap, h1, Nat.le_trans h2 h3⟩
theorem Fact.lenO {x : Operand} {o sz0 : Nat} {e' : TypeId} {es : List (List A)} (k : Nat) (hk : st.H[k]? = some (o, .row e' sz0 es)) (hx : st.ev x = some (.one (.obj o))) {n : Nat} (hn : es.length = n) : Fact st (n ≤ maxLen) := fun _ _ _ _ _ hi => let ⟨_, _, _, h⟩ := lenO_key hk hx hi; hn ▸ h
theorem Flo.lenO {t e e' : TypeId} {x : Operand} {at' : Array TypeId} {o sz0 : Nat} {es : List (List A)} (k : Nat) (hk : st.H[k]? = some (o, .row e' sz0 es)) (ht : P.underlying t = some (.slice e)) (hx : st.ev x = some (.one (.obj o))) (hat : at'[0]? = some t) {n : Nat} (hn : es.length = n) :
    Flo P ⟨d, .call { callee := .builtin .len, args := #[x], argTypes := at' }, ty, pos, aft, g⟩ st (.lit (.int .i64 n)) := by
  intro G M ι a w hi
  subst hn
  obtain ⟨p, c, he, hm⟩ := lenO_key hk hx hi
  exact ⟨.int .i64 es.length, fun w _ => by simp [execOp, resolve, invoke, builtin, Builtin.len_, hat, run_underlying ht, he, goInt], RepC.lit _⟩

theorem Flo.idxR {t e : TypeId} {x y : Operand} {k : IntKind} {i sz : Nat} {cl : Bool} {es : List (List C)} {cs : List C} (ht : P.underlying t = some (.slice e)) (hsz : ∀ w, (sizeOf e).run P w = .ok sz w) (hx : st.ev x = some (.c (.ro sz cl es))) (hy : st.ev y = some (.lit (.int k i))) (hi' : es[i]? = some cs) : Flo P ⟨d, .indexAddr t x y, ty, pos, aft, g⟩ st (.c (.rp cs)) :=
  fun G M ι ac w hi => by
    have h := hi.ev hx
    have hlt : i < es.length := by
      rcases Nat.lt_or_ge i es.length with h | h
      · exact h
      · simp [List.getElem?_eq_none h] at hi'
    generalize hu : ac.eval x = u at h
    cases h with
    | nil sz cl p c hp hcl hm => simp at hlt
    | ro sz cl es b off c u hne hsz' hc hm hcl hu' hr =>
      refine ⟨.pointer (some ⟨b, off + i * sz, none⟩), fun _ _ => ?_, .rp _ _ _ (u i) (fun j x hx => ?_) (fun j x hx => hr i cs j x hi' hx)⟩
      · simp [execOp, hu, ev_lit hi hy, Instr.indexAt, asIntOf, run_underlying ht, hsz, hlt, addr_add]
      · have := hu' i cs j x hi' hx; rwa [← Nat.add_assoc] at this
theorem Does.idxR {t e : TypeId} {x y : Operand} {k : IntKind} {i sz : Nat} {cl : Bool} {es : List (List C)} {cs : List C} (ht : P.underlying t = some (.slice e)) (hsz : ∀ w, (sizeOf e).run P w = .ok sz w) (hx : st.ev x = some (.c (.ro sz cl es))) (hy : st.ev y = some (.lit (.int k i))) (hi' : es[i]? = some cs) (hd : fits d st.n = true := by rfl) :
    Does P ⟨d, .indexAddr t x y, ty, pos, aft, g⟩ st (· = st.set d (.c (.rp cs))) := (Flo.idxR ht hsz hx hy hi').does hd
theorem Flo.idxO {t e : TypeId} {x y : Operand} {kd : IntKind} {i sz o : Nat} {e' : TypeId} {es : List (List A)} {cs : List A} (k : Nat) (hk : st.H[k]? = some (o, .row e' sz es)) (ht : P.underlying t = some (.slice e)) (hsz : ∀ w, (sizeOf e).run P w = .ok sz w) (hx : st.ev x = some (.one (.obj o))) (hy : st.ev y = some (.lit (.int kd i))) (hi' : es[i]? = some cs) : Flo P ⟨d, .indexAddr t x y, ty, pos, aft, g⟩ st (.one (.ptr o i 0)) :=
  fun G M ι ac w hi => by
    obtain ⟨sz', h⟩ := hi.ev hx
    obtain ⟨z, hz, xs, hsz', ho, hs, _⟩ := hi.core.ob _ (getElem?_mem hk)
    rw [h] at hz; cases hz
    simp only at hsz'; subst hsz'
    have hlt : i < es.length := by
      rcases Nat.lt_or_ge i es.length with h | h
      · exact h
      · simp [List.getElem?_eq_none h] at hi'
    rcases ho.2 with ⟨h1, h2⟩ | ⟨b, off, cap, cur, h1, _, h2, h3, _⟩
    · omega
    · have h1' : ac.eval x = .slice (some ⟨b, off, none⟩) es.length cap := h1
      refine ⟨.pointer (some ⟨b, off + i * sz', none⟩), fun _ _ => ?_, _, sz', b, h, by rw [h1']; rfl, by rw [h1']; simp⟩
      simp [execOp, h1', ev_lit hi hy, Instr.indexAt, asIntOf, run_underlying ht, hsz, hlt, addr_add]
theorem Does.idxO {t e : TypeId} {x y : Operand} {kd : IntKind} {i sz o : Nat} {e' : TypeId} {es : List (List A)} {cs : List A} (k : Nat) (hk : st.H[k]? = some (o, .row e' sz es)) (ht : P.underlying t = some (.slice e)) (hsz : ∀ w, (sizeOf e).run P w = .ok sz w) (hx : st.ev x = some (.one (.obj o))) (hy : st.ev y = some (.lit (.int kd i)))
    (hi' : es[i]? = some cs) (hd : fits d st.n = true := by rfl) :
    Does P ⟨d, .indexAddr t x y, ty, pos, aft, g⟩ st (· = st.set d (.one (.ptr o i 0))) := (Flo.idxO k hk ht hsz hx hy hi').does hd
end
end Go.Fl
