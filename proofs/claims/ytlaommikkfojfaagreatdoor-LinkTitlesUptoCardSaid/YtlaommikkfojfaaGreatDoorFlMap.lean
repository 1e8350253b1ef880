/- Steps over states: maps. Lemmas alone. -/
import Derived.Test.YtlaommikkfojfaaGreatDoorFlBytes
import Derived.ChangeMaps3
import Derived.MapFrom
namespace Go.Fl
open Go
/-- What a map holds for a key. -/
def mget {κ υ : Type} [DecidableEq κ] : List (κ × υ) → κ → Option υ
  | [], _ => none
  | e :: r, k => if e.1 = k then some e.2 else mget r k
def mset {κ υ : Type} [DecidableEq κ] : List (κ × υ) → κ → υ → List (κ × υ)
  | [], k, v => [(k, v)]
  | e :: r, k, v => if e.1 = k then (k, v) :: r else e :: mset r k v
def mdel {κ υ : Type} [DecidableEq κ] : List (κ × υ) → κ → List (κ × υ)
  | [], _ => []
  | e :: r, k => if e.1 = k then r else e :: mdel r k
def mapOf {κ υ : Type} (ek : κ → Value) (ev : υ → V1) (l : List (κ × υ)) : List (Value × V1) := l.map fun e => (ek e.1, ev e.2)
theorem mapOf_length {κ υ : Type} {ek : κ → Value} {ev : υ → V1} {l : List (κ × υ)} : (mapOf ek ev l).length = l.length := by simp [mapOf]
structure KeyEnc {κ : Type} (K : TypeDesc) (ek : κ → Value) : Prop where
  is : ∀ k, MapKept.IsKey K (ek k)
  inj : ∀ a b, ek a = ek b → a = b
theorem keyI : KeyEnc (.int .i64) (fun n : Int => Value.int .i64 n) := ⟨fun _ => rfl, fun _ _ h => by simpa using h⟩
theorem keyB : KeyEnc .bool (fun b : Bool => Value.bool b) := ⟨fun _ => trivial, fun _ _ h => by simpa using h⟩
theorem keyS : KeyEnc .string (fun s : List UInt8 => str s) := ⟨fun _ => trivial, fun a b h => by simpa [str] using h⟩
section
variable {κ υ : Type} [DecidableEq κ]
theorem mget_some {l : List (κ × υ)} {k : κ} {v : υ} : mget l k = some v → ∃ j : Nat, l[j]? = some (k, v) ∧ ∀ (i : Nat) (e : κ × υ), i < j → l[i]? = some e → e.1 ≠ k := by
  induction l with
  | nil => intro h; cases h
  | cons e r ih =>
    intro h
    simp only [mget] at h
    by_cases he : e.1 = k
    · rw [if_pos he] at h
      cases h
      exact ⟨0, by simp [← he], fun i _ hi => absurd hi (Nat.not_lt_zero _)⟩
    · rw [if_neg he] at h
      obtain ⟨j, h1, h2⟩ := ih h
      refine ⟨j + 1, by simpa using h1, fun i e' hi hx => ?_⟩
      cases i with
      | zero => simp at hx; rw [← hx]; exact he
      | succ i => exact h2 i e' (by omega) (by simpa using hx)
theorem mget_none {l : List (κ × υ)} {k : κ} : mget l k = none → ∀ e ∈ l, e.1 ≠ k := by
  induction l with
  | nil => intro _ e he; cases he
  | cons e r ih =>
    intro h x hx
    simp only [mget] at h
    by_cases he : e.1 = k
    · rw [if_pos he] at h; cases h
    · rw [if_neg he] at h
      rcases List.mem_cons.1 hx with rfl | hx
      · exact he
      · exact ih h x hx
theorem mset_none {l : List (κ × υ)} {k : κ} {v : υ} : (∀ e ∈ l, e.1 ≠ k) → mset l k v = l ++ [(k, v)] := by
  induction l with
  | nil => intro _; rfl
  | cons e r ih => intro h; simp only [mset]; rw [if_neg (h e List.mem_cons_self), ih fun x hx => h x (List.mem_cons_of_mem _ hx)]; rfl
theorem mset_at {k : κ} {v : υ} : ∀ {l : List (κ × υ)} {j : Nat} {u : υ}, l[j]? = some (k, u) → (∀ (i : Nat) (e : κ × υ), i < j → l[i]? = some e → e.1 ≠ k) → mset l k v = l.set j (k, v)
  | [], _, _, h, _ => by simp at h
  | e :: r, 0, u, h, _ => by simp at h; subst h; simp [mset]
  | e :: r, j + 1, u, h, hn => by
    simp only [mset]
    rw [if_neg (hn 0 e (by omega) (by simp)), mset_at (l := r) (j := j) (u := u) (by simpa using h) fun i e' hi hx => hn (i + 1) e' (by omega) (by simpa using hx)]
    rfl
theorem mdel_none {l : List (κ × υ)} {k : κ} : (∀ e ∈ l, e.1 ≠ k) → mdel l k = l := by
  induction l with
  | nil => intro _; rfl
  | cons e r ih => intro h; simp only [mdel]; rw [if_neg (h e List.mem_cons_self), ih fun x hx => h x (List.mem_cons_of_mem _ hx)]
theorem mdel_at {k : κ} : ∀ {l : List (κ × υ)} {j : Nat} {u : υ}, l[j]? = some (k, u) → (∀ (i : Nat) (e : κ × υ), i < j → l[i]? = some e → e.1 ≠ k) → mdel l k = l.eraseIdx j
  | [], _, _, h, _ => by simp at h
  | e :: r, 0, u, h, _ => by simp at h; subst h; simp [mdel]
  | e :: r, j + 1, u, h, hn => by
    simp only [mdel]
    rw [if_neg (hn 0 e (by omega) (by simp)), mdel_at (l := r) (j := j) (u := u) (by simpa using h) fun i e' hi hx => hn (i + 1) e' (by omega) (by simpa using hx)]
    rfl
end
theorem All2.mem_right {α β : Type} {R : α → β → Prop} : ∀ {as : List α} {bs : List β}, All2 R as bs → ∀ b ∈ bs, ∃ a ∈ as, R a b
  | [], [], _, b, hb => by cases hb
  | a :: as, b :: bs, h, x, hx => by
    rcases List.mem_cons.1 hx with rfl | hx
    · exact ⟨a, List.mem_cons_self, h.1⟩
    · obtain ⟨y, hy, hr⟩ := All2.mem_right h.2 x hx; exact ⟨y, List.mem_cons_of_mem _ hy, hr⟩
  | [], _ :: _, h, _, _ => h.elim
  | _ :: _, [], h, _, _ => h.elim
theorem All2.eraseIdx {α β : Type} {R : α → β → Prop} : ∀ {as : List α} {bs : List β} (k : Nat), All2 R as bs → All2 R (as.eraseIdx k) (bs.eraseIdx k)
  | [], [], _, _ => trivial
  | _ :: _, _ :: _, 0, h => h.2
  | _ :: _, _ :: _, k + 1, h => ⟨h.1, All2.eraseIdx k h.2⟩
  | [], _ :: _, _, h => h.elim
  | _ :: _, [], _, h => h.elim
theorem map_eraseIdx {α β : Type} (f : α → β) : ∀ (l : List α) (j : Nat), (l.eraseIdx j).map f = (l.map f).eraseIdx j
  | [], _ => rfl
  | _ :: _, 0 => rfl
  | a :: l, j + 1 => by simp [map_eraseIdx f l j]
/-- What the model finds in a map. -/
theorem map_find {M : Mem} {ι : Iota} {K : TypeDesc} {κ υ : Type} [DecidableEq κ] {ek : κ → Value} {ev : υ → V1} (hek : KeyEnc K ek) {l : List (κ × υ)} {xs : Array MapEntry} {clock : Nat} (h : MapOb M ι K (mapOf ek ev l) xs clock) (k : κ) :
    (∃ (j : Nat) (v : υ) (u : Value), mget l k = some v ∧ l[j]? = some (k, v) ∧ (∀ (i : Nat) (e : κ × υ), i < j → l[i]? = some e → e.1 ≠ k) ∧ Instr.findNow K (ek k) xs.toList 0 = some (some (j, u)) ∧ RepV1 M ι (ev v) u ∧ ∃ x, xs[j]? = some x ∧ x.key = ek k ∧ x.val = u) ∨
    (mget l k = none ∧ (∀ e ∈ l, e.1 ≠ k) ∧ Instr.findNow K (ek k) xs.toList 0 = some none ∧ ∀ x ∈ xs.toList, x.key ≠ ek k) := by
  obtain ⟨h1, h2, h3, h4⟩ := h
  rcases MapKept.findNow_spec (hek.is k) xs.toList 0 h3 with ⟨f1, f2⟩ | ⟨j, x, f1, f2, f3⟩
  · right
    have hne : ∀ e ∈ l, e.1 ≠ k := by
      intro e he hk
      obtain ⟨i, hi⟩ := List.getElem?_of_mem he
      have hm : (mapOf ek ev l)[i]? = some (ek e.1, ev e.2) := by simp [mapOf, hi]
      obtain ⟨x, hx, hr⟩ := h1.get hm
      exact f2 x (List.mem_of_getElem? hx) (by rw [hr.1, hk])
    refine ⟨?_, hne, f1, f2⟩
    cases hg : mget l k with
    | none => rfl
    | some v => obtain ⟨j, hj, _⟩ := mget_some hg; exact absurd rfl (hne _ (List.mem_of_getElem? hj))
  · left
    have hlen := h1.len
    have hj : j < l.length := by
      have := (List.getElem?_eq_some_iff.1 f2).1
      rw [← hlen, mapOf_length] at this; exact this
    obtain ⟨e, he⟩ : ∃ e, l[j]? = some e := ⟨_, List.getElem?_eq_getElem hj⟩
    have hm : (mapOf ek ev l)[j]? = some (ek e.1, ev e.2) := by simp [mapOf, he]
    obtain ⟨x', hx', hr⟩ := h1.get hm
    rw [f2] at hx'; cases hx'
    have hr1 : x.key = ek e.1 := hr.1
    have hek' : e.1 = k := hek.inj _ _ (by rw [← hr1, f3])
    -- the keys are apart, so this is the first
    have huniq : ∀ i e', i < j → l[i]? = some e' → e'.1 ≠ k := by
      intro i e' hi he' hk
      have hm' : (mapOf ek ev l)[i]? = some (ek e'.1, ev e'.2) := by simp [mapOf, he']
      obtain ⟨x', hx', hr'⟩ := h1.get hm'
      have hp := ((MapKept.stamped_iff xs clock).1 h2).2.2
      have hi' := (List.getElem?_eq_some_iff.1 hx')
      have hj' := (List.getElem?_eq_some_iff.1 f2)
      have := List.pairwise_iff_getElem.1 hp i j hi'.1 hj'.1 hi
      rw [hi'.2, hj'.2] at this
      exact this (by rw [hr'.1, f3, hk])
    have hel : l[j]? = some (k, e.2) := by rw [he, ← hek']
    have hg : mget l k = some e.2 := by
      cases hg : mget l k with
      | none => exact absurd hek' (mget_none hg _ (List.mem_of_getElem? he))
      | some v =>
        obtain ⟨j', hj', hn'⟩ := mget_some hg
        rcases Nat.lt_trichotomy j j' with hlt | heq | hgt
        · exact absurd rfl (hn' j _ hlt hel)
        · subst heq; rw [hel] at hj'; simpa using hj'.symm
        · exact absurd rfl (huniq j' _ hgt hj')
    exact ⟨j, e.2, x.val, hg, hel, huniq, by simpa using f1, hr.2, x, by simpa using f2, f3, rfl⟩

section
variable {P : Program} {st : St} {d : Option Nat} {ty : TypeId} {pos : String} {aft : Array Edge} {g : Option (Nat × Bool)}
theorem Does.makeMap {t E : TypeId} {K : TypeDesc} (hd : fits d st.n = true := by rfl) :
    Does P ⟨d, .makeMap t none, ty, pos, aft, g⟩ st (· = { st with H := (st.nx, .map K E []) :: st.H, nx := st.nx + 1 }.set d (.one (.obj st.nx))) := by
  refine ⟨fun G M ι a w hi Kk Q hK => ?_⟩
  have hex : (execOp a.eval ⟨d, .makeMap t none, ty, pos, aft, g⟩).run P w = .ok (.value (.map (some w.heap.size))) (w.alloc (.map #[] 0)) := by
    simp [execOp, Instr.makeMap]
  simp only [Oper.wp, hex, Oper.upon]
  exact hK _ M _ _ _ rfl (hi.laid (x := (.map (some w.heap.size), 0)) (ob := .map K E []) (.map #[] 0) rfl rfl (fun ι' _ => ⟨w.heap.size, #[], 0, rfl, alloc_at _ _, trivial, MapKept.stamped_empty 0, by simp, by simp⟩) hd ⟨0, by simp [iset]⟩)

variable {κ υ : Type} [DecidableEq κ] {ek : κ → Value} {ev : υ → V1} {K : TypeDesc} {o : Nat} {E : TypeId} {l : List (κ × υ)}
theorem map_at {G : Gh} {M : Mem} {ι : Iota} {a : Act} {w : World} (hi : Inv G M ι st a w) {k : Nat} {es : List (Value × V1)} (hk : st.H[k]? = some (o, .map K E es)) {x : Operand} (hx : st.ev x = some (.one (.obj o))) :
    ∃ b xs clock sz, a.eval x = .map (some b) ∧ ι o = some (.map (some b), sz) ∧ w.heap[b]? = some (.map xs clock) ∧ MapOb M ι K es xs clock := by
  obtain ⟨sz, h⟩ := hi.ev hx
  obtain ⟨y, hy, b, xs, clock, h1, h2, h3⟩ := hi.core.ob _ (getElem?_mem hk)
  rw [h] at hy; cases hy
  exact ⟨b, xs, clock, sz, h1, by rw [h]; simp at h1; rw [h1], h2, h3⟩

theorem Flo.lookup2 {t kt et : TypeId} {x y : Operand} {kk : κ} {zz : υ} {zv : Value} (k : Nat) (hk : st.H[k]? = some (o, .map K E (mapOf ek ev l))) (ht : P.underlying t = some (.map kt et)) (hK : P.underlying kt = some K) (hek : KeyEnc K ek)
    (hx : st.ev x = some (.one (.obj o))) (hy : st.ev y = some (.lit (ek kk))) (hz : ∀ w, (zeroValue et).run P w = .ok zv w) (hzz : ∀ M ι, RepV1 M ι (ev zz) zv) :
    Flo P ⟨d, .lookup t x y true, ty, pos, aft, g⟩ st (.tup [ev ((mget l kk).getD zz), .one (.c (.lit (.bool (mget l kk).isSome)))]) := by
  intro G M ι a w hi
  obtain ⟨b, xs, clock, sz, he, hio, hb, hm⟩ := map_at hi hk hx
  have hb' : ∀ w', Same M ι st.H w w' → w'.heap[b]? = some (.map xs clock) := fun w' hs => by rw [hs.2 _ (getElem?_mem hk) _ b hio rfl]; exact hb
  have hkey := hek.is kk
  rcases map_find hek hm kk with ⟨j, v, u, hg, _, _, hf, hr, _⟩ | ⟨hg, _, hf, _⟩
  · refine ⟨.tuple #[u, .bool true], fun w' hs => ?_, [u, .bool true], rfl, by rw [hg]; exact hr, by rw [hg]; exact RepC.lit _, trivial⟩
    simp [execOp, Instr.lookup, run_underlying ht, he, ev_lit hi hy, MapKept.run_getObj_map (hb' w' hs), MapKept.run_checkKey hK hkey, MapKept.run_findKey hK hf, Result.andThen]
  · refine ⟨.tuple #[zv, .bool false], fun w' hs => ?_, [zv, .bool false], rfl, by rw [hg]; exact hzz _ _, by rw [hg]; exact RepC.lit _, trivial⟩
    simp [execOp, Instr.lookup, run_underlying ht, he, ev_lit hi hy, MapKept.run_getObj_map (hb' w' hs), MapKept.run_checkKey hK hkey, MapKept.run_findKey hK hf, Result.andThen, hz]
theorem Flo.lookup1 {t kt et : TypeId} {x y : Operand} {kk : κ} {zz : υ} {zv : Value} (k : Nat) (hk : st.H[k]? = some (o, .map K E (mapOf ek ev l))) (ht : P.underlying t = some (.map kt et)) (hK : P.underlying kt = some K) (hek : KeyEnc K ek)
    (hx : st.ev x = some (.one (.obj o))) (hy : st.ev y = some (.lit (ek kk))) (hz : ∀ w, (zeroValue et).run P w = .ok zv w) (hzz : ∀ M ι, RepV1 M ι (ev zz) zv) :
    Flo P ⟨d, .lookup t x y false, ty, pos, aft, g⟩ st (.v (ev ((mget l kk).getD zz))) := by
  intro G M ι a w hi
  obtain ⟨b, xs, clock, sz, he, hio, hb, hm⟩ := map_at hi hk hx
  have hb' : ∀ w', Same M ι st.H w w' → w'.heap[b]? = some (.map xs clock) := fun w' hs => by rw [hs.2 _ (getElem?_mem hk) _ b hio rfl]; exact hb
  have hkey := hek.is kk
  rcases map_find hek hm kk with ⟨j, v, u, hg, _, _, hf, hr, _⟩ | ⟨hg, _, hf, _⟩
  · refine ⟨u, fun w' hs => ?_, by rw [hg]; exact hr⟩
    simp [execOp, Instr.lookup, run_underlying ht, he, ev_lit hi hy, MapKept.run_getObj_map (hb' w' hs), MapKept.run_checkKey hK hkey, MapKept.run_findKey hK hf, Result.andThen]
  · refine ⟨zv, fun w' hs => ?_, by rw [hg]; exact hzz _ _⟩
    simp [execOp, Instr.lookup, run_underlying ht, he, ev_lit hi hy, MapKept.run_getObj_map (hb' w' hs), MapKept.run_checkKey hK hkey, MapKept.run_findKey hK hf, Result.andThen, hz]
omit [DecidableEq κ] in
theorem Flo.lenM {t kt et : TypeId} {x : Operand} {at' : Array TypeId} (k : Nat) (hk : st.H[k]? = some (o, .map K E (mapOf ek ev l))) (ht : P.underlying t = some (.map kt et)) (hx : st.ev x = some (.one (.obj o))) (hat : at'[0]? = some t) :
    Flo P ⟨d, .call { callee := .builtin .len, args := #[x], argTypes := at' }, ty, pos, aft, g⟩ st (.lit (.int .i64 l.length)) := by
  intro G M ι a w hi
  obtain ⟨b, xs, clock, sz, he, hio, hb, hm⟩ := map_at hi hk hx
  have hl := hm.1.len
  rw [mapOf_length] at hl
  refine ⟨.int .i64 l.length, fun w' hs => ?_, RepC.lit _⟩
  have hb' : w'.heap[b]? = some (.map xs clock) := by rw [hs.2 _ (getElem?_mem hk) _ b hio rfl]; exact hb
  simp [execOp, resolve, invoke, builtin, Builtin.len_, hat, run_underlying ht, he, goInt, MapKept.run_getObj_map hb', Result.andThen, hl]

theorem Does.mapUpdate {t kt et : TypeId} {x y z : Operand} {kk : κ} {vv : υ} (k : Nat) (hk : st.H[k]? = some (o, .map K E (mapOf ek ev l))) (ht : P.underlying t = some (.map kt et)) (hK : P.underlying kt = some K) (hek : KeyEnc K ek)
    (hx : st.ev x = some (.one (.obj o))) (hy : st.ev y = some (.lit (ek kk))) (hz : st.ev z = some (.v (ev vv))) (hlen : l.length < maxLen) :
    Does P ⟨none, .mapUpdate t x y z, ty, pos, aft, g⟩ st (· = { st with H := st.H.set k (o, .map K E (mapOf ek ev (mset l kk vv))) }) := by
  refine ⟨fun G M ι a w hi Kk Q hKk => ?_⟩
  obtain ⟨b, xs, clock, sz, he, hio, hb, hm⟩ := map_at hi hk hx
  have hkey := hek.is kk
  have hrz := hi.ev hz
  have hxl : xs.size < maxLen := by have := hm.1.len; rw [mapOf_length] at this; simp at this; omega
  rcases map_find hek hm kk with ⟨j, v, u, hg, hj, hn, hf, hr, e0, h2, h3, h4⟩ | ⟨hg, hn, hf, h2⟩
  · have hex : (execOp a.eval ⟨none, .mapUpdate t x y z, ty, pos, aft, g⟩).run P w = .ok .skip (setBlk w b (.map (xs.modify j fun e' => { e' with key := ek kk, val := a.eval z }) clock)) := by
      simp [execOp, Instr.mapUpdate, run_underlying ht, he, ev_lit hi hy, MapKept.run_getObj_map hb, MapKept.run_checkKey hK hkey, MapKept.run_findKey hK hf, h2, h3, MapKept.run_keyThatStays hkey, MapKept.run_setObj_map _ hb, Result.andThen, setBlk]
    simp only [Oper.wp, hex, Oper.upon]
    refine hKk _ M ι _ _ rfl (hi.upd (d := none) (obj := .map (xs.modify j fun e' => { e' with key := ek kk, val := a.eval z }) clock) (ob := .map K E (mapOf ek ev l)) (ob' := .map K E (mapOf ek ev (mset l kk vv))) hk hio rfl ⟨b, _, clock, rfl, setBlk_at hb, ?_, MapKept.stamped_modify hm.2.1 _ _ (fun _ _ => rfl) (fun e' _ he' => by rw [h2] at he'; cases he'; exact h3.symm), ?_, by simpa using hm.2.2.2⟩)
    · have h2' : xs.toList[j]? = some e0 := by simpa using h2
      rw [mset_at hj hn, Array.toList_modify, Go.ChangeMaps.modify_eq_set _ _ _ _ h2']
      have : mapOf ek ev (l.set j (kk, vv)) = (mapOf ek ev l).set j (ek kk, ev vv) := by simp [mapOf, List.map_set]
      rw [this]
      exact hm.1.set j ⟨rfl, hrz⟩
    · intro x' hx'
      rcases MapFrom.mem_modify hx' with hx' | ⟨e', _, rfl⟩
      · exact hm.2.2.1 x' hx'
      · exact hkey
  · have hex : (execOp a.eval ⟨none, .mapUpdate t x y z, ty, pos, aft, g⟩).run P w = .ok .skip (setBlk w b (.map (xs.push { key := ek kk, val := a.eval z, born := clock }) (clock + 1))) := by
      simp [execOp, Instr.mapUpdate, run_underlying ht, he, ev_lit hi hy, MapKept.run_getObj_map hb, MapKept.run_checkKey hK hkey, MapKept.run_findKey hK hf, MapKept.run_setObj_map _ hb, Result.andThen, setBlk]
    simp only [Oper.wp, hex, Oper.upon]
    refine hKk _ M ι _ _ rfl (hi.upd (d := none) (ob := .map K E (mapOf ek ev l)) (ob' := .map K E (mapOf ek ev (mset l kk vv))) hk hio rfl ⟨b, _, clock + 1, rfl, setBlk_at hb, ?_, MapKept.stamped_push hm.2.1 h2, ?_, by simp; omega⟩)
    · rw [mset_none hn, Array.toList_push]
      have : mapOf ek ev (l ++ [(kk, vv)]) = mapOf ek ev l ++ [(ek kk, ev vv)] := by simp [mapOf]
      rw [this]
      exact hm.1.append ⟨⟨rfl, hrz⟩, trivial⟩
    · intro x' hx'
      simp only [Array.toList_push, List.mem_append, List.mem_singleton] at hx'
      rcases hx' with hx' | rfl
      · exact hm.2.2.1 x' hx'
      · exact hkey
theorem Does.insert {t kt et : TypeId} {x y z : Operand} {kk : κ} {vv : υ} (k : Nat) (hk : st.H[k]? = some (o, .map K E (mapOf ek ev l))) (ht : P.underlying t = some (.map kt et)) (hK : P.underlying kt = some K) (hek : KeyEnc K ek)
    (hx : st.ev x = some (.one (.obj o))) (hy : st.ev y = some (.lit (ek kk))) (hz : st.ev z = some (.v (ev vv))) (hlen : l.length < maxLen) :
    Does P ⟨none, .insert t x y z, ty, pos, aft, g⟩ st (· = { st with H := st.H.set k (o, .map K E (mapOf ek ev (mset l kk vv))) }) :=
  ⟨fun G M ι a w hi Kk Q hKk => (Does.mapUpdate (ty := ty) (pos := pos) (aft := aft) (g := g) k hk ht hK hek hx hy hz hlen).go G M ι a w hi Kk Q hKk⟩
theorem Does.delete {t kt et : TypeId} {x y : Operand} {at' : Array TypeId} {kk : κ} (k : Nat) (hk : st.H[k]? = some (o, .map K E (mapOf ek ev l))) (ht : P.underlying t = some (.map kt et)) (hK : P.underlying kt = some K) (hek : KeyEnc K ek)
    (hx : st.ev x = some (.one (.obj o))) (hy : st.ev y = some (.lit (ek kk))) (hat : at'[0]? = some t) (hd : fits d st.n = true := by rfl) :
    Does P ⟨d, .call { callee := .builtin .delete, args := #[x, y], argTypes := at' }, ty, pos, aft, g⟩ st (· = { st with H := st.H.set k (o, .map K E (mapOf ek ev (mdel l kk))) }.set d (.tup [])) := by
  refine ⟨fun G M ι a w hi Kk Q hKk => ?_⟩
  obtain ⟨b, xs, clock, sz, he, hio, hb, hm⟩ := map_at hi hk hx
  have hkey := hek.is kk
  have put : ∀ st' w', Inv G M ι st' a w' → fits d st'.n = true → Inv G M ι (st'.set d (.tup [])) (a.put d (.tuple #[])) w' := fun st' w' h hd => h.put (fits_spec hd) ⟨[], rfl, trivial⟩
  rcases map_find hek hm kk with ⟨j, v, u, hg, hj, hn, hf, hr, e0, h2, h3, h4⟩ | ⟨hg, hn, hf, h2⟩
  · have hex : (execOp a.eval ⟨d, .call { callee := .builtin .delete, args := #[x, y], argTypes := at' }, ty, pos, aft, g⟩).run P w = .ok (.value (.tuple #[])) (setBlk w b (.map (xs.eraseIdxIfInBounds j) clock)) := by
      simp [execOp, resolve, invoke, builtin, Builtin.delete_, hat, run_underlying ht, he, ev_lit hi hy, MapKept.run_getObj_map hb, MapKept.run_checkKey hK hkey, MapKept.run_findKey hK hf, MapKept.run_setObj_map _ hb, Result.andThen, setBlk]
    simp only [Oper.wp, hex, Oper.upon]
    have hjs : j < xs.size := (Array.getElem?_eq_some_iff.1 h2).1
    have hsub : (xs.eraseIdxIfInBounds j).toList = xs.toList.eraseIdx j := by
      unfold Array.eraseIdxIfInBounds
      rw [dif_pos hjs]
      simp
    refine hKk _ M ι _ _ rfl (put _ _ (hi.upd (d := none) (ob := .map K E (mapOf ek ev l)) (ob' := .map K E (mapOf ek ev (mdel l kk))) hk hio rfl ⟨b, _, clock, rfl, setBlk_at hb, ?_, MapKept.stamped_erase hm.2.1 _, ?_, Nat.le_trans (MapFrom.size_erase xs j) hm.2.2.2⟩) hd)
    · rw [mdel_at hj hn, hsub]
      have : mapOf ek ev (l.eraseIdx j) = (mapOf ek ev l).eraseIdx j := map_eraseIdx _ l j
      rw [this]
      exact hm.1.eraseIdx j
    · intro x' hx'
      rw [hsub] at hx'
      exact hm.2.2.1 x' ((List.eraseIdx_sublist _ _).subset hx')
  · have hex : (execOp a.eval ⟨d, .call { callee := .builtin .delete, args := #[x, y], argTypes := at' }, ty, pos, aft, g⟩).run P w = .ok (.value (.tuple #[])) (setBlk w b (.map xs clock)) := by
      simp [execOp, resolve, invoke, builtin, Builtin.delete_, hat, run_underlying ht, he, ev_lit hi hy, MapKept.run_getObj_map hb, MapKept.run_checkKey hK hkey, MapKept.run_findKey hK hf, MapKept.run_setObj_map _ hb, Result.andThen, setBlk]
    simp only [Oper.wp, hex, Oper.upon]
    refine hKk _ M ι _ _ rfl (put _ _ (hi.upd (d := none) (ob := .map K E (mapOf ek ev l)) (ob' := .map K E (mapOf ek ev (mdel l kk))) hk hio rfl ⟨b, xs, clock, rfl, setBlk_at hb, ?_, hm.2.1, hm.2.2.1, hm.2.2.2⟩) hd)
    rw [mdel_none hn]
    exact hm.1
end
end Go.Fl
