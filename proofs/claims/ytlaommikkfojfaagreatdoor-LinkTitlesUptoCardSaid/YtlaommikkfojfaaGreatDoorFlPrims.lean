/- Contracts of functions of the library, over the states of these texts. Lemmas alone. -/
import Derived.Test.YtlaommikkfojfaaGreatDoorFlTypes
import Derived.Test.YtlaommikkfojfaaGreatDoorFlLoops
import Derived.Shelf.Strings.OnBuilder
import Derived.Shelf.Sort.Plain
import Derived.Shelf.Slices.In.SortNone
namespace Go.Fl
open Go Go.Shelf Go.Proofs Go.RowKit
section
variable {P : Program}
/-- A function that reads, and makes what nobody sees. -/
theorem OkH.quiet {f : FuncId} {args : List V1} {H : List (Nat × Ob)} {nx : Nat} {Q : V → List (Nat × Ob) → Nat → Prop}
    (h : ∀ M ι vs w, All2 (RepV1 M ι) args vs → InvH M ι H nx w → ∃ u r, RepV M ι r u ∧ Q r H nx ∧ Calls P f vs.toArray w fun e w' => e = .returned u ∧ Below w.heap.size w w') : OkH P f args H nx Q := by
  intro M ι vs w ha hi
  obtain ⟨u, r, hr, hq, hc⟩ := h M ι vs w ha hi
  refine hc.mono fun e w' ⟨he, hb⟩ => ⟨u, M, ι, r, H, nx, he, hq, hr, hi.grown (row := none) (fun k hk _ => hb.block k hk) (fun b hb => by cases hb), .refl _, .refl _, Nat.le_refl _, ⟨fun b k h1 h2 => absurd h1 h2, fun o x hx _ => hx⟩, ⟨hb.os, hb.tape, hb.output, hb.size, fun k hk _ => hb.block k hk⟩, fun p hp x b hx hb => .inl ⟨p, hp, x, hx, hb⟩⟩

/-- The strings of a slice lie in memory. -/
theorem strs_at {M : Mem} {ι : Iota} {H : List (Nat × Ob)} {nx : Nat} {w : World} (hi : InvH M ι H nx w) {cl : Bool} {l : List (List UInt8)} {u : Value} (h : RepC M (.ro 1 cl (l.map encS)) u) :
    ∃ p c, u = .slice p l.length c ∧ l.length ≤ c ∧ l.length ≤ maxLen ∧ (l ≠ [] → ∃ b off, p = some ⟨b, off, none⟩ ∧ b < w.heap.size ∧ ∀ (j : Nat) x, (l.map fun s => ByteArray.mk s.toArray)[j]? = some x → w.cell? ⟨b, off + j, none⟩ = some (.string x)) := by
  generalize hes : l.map encS = es at h
  cases h with
  | nil sz cl p c hp hcl hm =>
    have : l = [] := by simpa using hes
    subst this
    exact ⟨p, c, rfl, Nat.zero_le _, Nat.zero_le _, fun h => absurd rfl h⟩
  | ro sz cl es b off c f hne hsz hc hm hcl hu hr =>
    have hlen : es.length = l.length := by rw [← hes]; simp
    refine ⟨_, c, by rw [hlen], by omega, by omega, fun hl => ⟨b, off, rfl, ?_, ?_⟩⟩
    · obtain ⟨s, l', rfl⟩ : ∃ s l', l = s :: l' := by cases l with | nil => exact absurd rfl hl | cons s l' => exact ⟨s, l', rfl⟩
      have h0 : es[0]? = some (encS s) := by rw [← hes]; rfl
      have := (hi.mem _ _ _ (hu 0 _ 0 _ h0 rfl)).1
      rcases Nat.lt_or_ge b w.heap.size with h' | h'
      · exact h'
      · simp [World.cell?, Array.getElem?_eq_none h'] at this
    · intro j x hx
      rw [List.getElem?_map] at hx
      cases hs : l[j]? with
      | none => rw [hs] at hx; cases hx
      | some s =>
        rw [hs] at hx; simp at hx; subst hx
        have h0 : es[j]? = some (encS s) := by rw [← hes]; simp [hs]
        have h1 := (hi.mem _ _ _ (hu j _ 0 _ h0 rfl)).1
        have h2 := hr j _ 0 _ h0 rfl
        have : f j 0 = str s := by generalize f j 0 = y at h2; cases h2; rfl
        rw [this] at h1
        simpa using h1
theorem strs_flat : ∀ l : List (List UInt8), (rowOf encS l).flatten = l.map fun s => A.c (.lit (str s))
  | [] => rfl
  | s :: l => by
    have : rowOf encS (s :: l) = (encS s).map A.c :: rowOf encS l := rfl
    rw [this, List.flatten_cons, strs_flat l]; rfl
theorem strs_own {M : Mem} {ι : Iota} {H : List (Nat × Ob)} {nx : Nat} {w : World} (hi : InvH M ι H nx w) {k o : Nat} {e : TypeId} {l : List (List UInt8)} (hk : H[k]? = some (o, .row e 1 (rowOf encS l))) {u : Value} (h : RepA M ι (.obj o) u) :
    ∃ p c, u = .slice p l.length c ∧ l.length ≤ c ∧ l.length ≤ maxLen ∧ (l ≠ [] → ∃ b off, p = some ⟨b, off, none⟩ ∧ b < w.heap.size ∧ ∀ (j : Nat) x, (l.map fun s => ByteArray.mk s.toArray)[j]? = some x → w.cell? ⟨b, off + j, none⟩ = some (.string x)) := by
  obtain ⟨sz, h⟩ := h
  obtain ⟨y, hy, xs, hz, ho, hs, h2, h1⟩ := hi.ob _ (getElem?_mem hk)
  rw [h] at hy; cases hy
  have hz' : sz = 1 := hz
  subst hz'
  have hlen : (rowOf encS l).length = l.length := rowOf_length
  have hfl := strs_flat l
  have ho' : Owns w e 1 u l.length xs := by rw [← hlen]; exact ho
  rw [hfl] at h2
  rcases ho'.2 with ⟨h3, h4⟩ | ⟨b, off, cap, cur, h3, ⟨fz, hh, _⟩, h5, h6, _⟩
  · exact ⟨none, 0, by rw [h3, h4], by omega, by omega, fun hl => absurd (List.eq_nil_of_length_eq_zero h4) hl⟩
  · refine ⟨_, cap, h3, h5, by omega, fun hl => ⟨b, off, rfl, (Array.getElem?_eq_some_iff.1 hh).1, fun j x hx => ?_⟩⟩
    rw [List.getElem?_map] at hx
    cases hs : l[j]? with
    | none => rw [hs] at hx; cases hx
    | some s =>
      rw [hs] at hx; simp at hx; subst hx
      obtain ⟨v, hv, hr⟩ := h2.get (i := j) (a := A.c (.lit (str s))) (by simp [hs])
      have := owns_cell ho' (b := b) (by rw [h3]; rfl) hv
      rw [h3] at this
      have hve : v = str s := by cases hr; rfl
      rw [hve] at this
      simpa using this

theorem map_bytes : ∀ l : List (List UInt8), (l.map fun s => ByteArray.mk s.toArray).map (·.data.toList) = l
  | [] => rfl
  | s :: l => by rw [List.map_cons, List.map_cons, map_bytes l]
/-- The elements with a string between each two. -/
def joinB (l : List (List UInt8)) (sep : List UInt8) : List UInt8 := Go.Lib.join l sep
def joinC (l : List (List UInt8)) (sep : List UInt8) : Option (List UInt8) := ckN l.length (ckN (joinB l sep).length (some (joinB l sep)))
variable {ρ : Ren}
theorem join_core (L : Lays.n156 P ρ) (X : Builder.Extra P ρ) {l : List (List UInt8)} {sep r : List UInt8} (hr : joinC l sep = some r) {w : World} {p : Option Addr} {c : Nat} (hc : l.length ≤ c) (hm : l.length ≤ maxLen)
    (hp : l ≠ [] → ∃ b off, p = some ⟨b, off, none⟩ ∧ b < w.heap.size ∧ ∀ (j : Nat) x, (l.map fun s => ByteArray.mk s.toArray)[j]? = some x → w.cell? ⟨b, off + j, none⟩ = some (.string x)) :
    Calls P (ρ.f 156) #[.slice p l.length c, str sep] w fun e w' => e = .returned (str r) ∧ Below w.heap.size w w' := by
  obtain ⟨hjl, hr⟩ := ckN_inv hr
  obtain ⟨hlen, hr⟩ := ckN_inv hr
  have hr := Option.some.inj hr
  subst hr
  have hmap := map_bytes l
  by_cases hl : l = []
  · subst hl
    exact (Any.strings_Join_none L X p c _ w).mono fun e w' ⟨he, hw⟩ => ⟨he, hw ▸ Below.refl _ _⟩
  · obtain ⟨b, off, rfl, hb, hcells⟩ := hp hl
    have := Any.strings_Join L X b off c (l.map fun s => ByteArray.mk s.toArray) ⟨sep.toArray⟩ w hcells hb (by simp; omega) (by simpa using hc) (by rw [hmap]; have h9 : (Go.Lib.join l sep).length ≤ 4294967296 := hlen; simpa using (show (Go.Lib.join l sep).length ≤ 140737488355328 by omega))
    rw [hmap, List.length_map] at this
    exact this
theorem Prim.join_ro (L : Lays.n156 P ρ) (X : Builder.Extra P ρ) {l : List (List UInt8)} {sep r : List UInt8} (hr : joinC l sep = some r) (nx : Nat) :
    OkH P (ρ.f 156) [.one (.c (.ro 1 false (l.map encS))), .one (.c (.lit (str sep)))] [] nx fun v H' _ => v = .v (.one (.c (.lit (str r)))) ∧ H' = [] :=
  OkH.quiet fun M ι vs w ha hi => by
    match vs, ha with
    | [u, v], ha =>
      obtain ⟨p, c, rfl, hc, hm, hp⟩ := strs_at hi ha.1
      have hv : v = str sep := by have := ha.2.1; cases this; rfl
      subst hv
      exact ⟨str r, .v (.one (.c (.lit (str r)))), RepC.lit _, ⟨rfl, rfl⟩, join_core L X hr hc hm hp⟩
theorem Prim.join_own (L : Lays.n156 P ρ) (X : Builder.Extra P ρ) {l : List (List UInt8)} {sep r : List UInt8} {e : TypeId} (hr : joinC l sep = some r) (o nx : Nat) :
    OkH P (ρ.f 156) [.one (.obj o), .one (.c (.lit (str sep)))] [(o, .row e 1 (rowOf encS l))] nx fun v H' _ => v = .v (.one (.c (.lit (str r)))) ∧ H' = [(o, .row e 1 (rowOf encS l))] :=
  OkH.quiet fun M ι vs w ha hi => by
    match vs, ha with
    | [u, v], ha =>
      obtain ⟨p, c, rfl, hc, hm, hp⟩ := strs_own hi (k := 0) rfl ha.1
      have hv : v = str sep := by have := ha.2.1; cases this; rfl
      subst hv
      exact ⟨str r, .v (.one (.c (.lit (str r)))), RepC.lit _, ⟨rfl, rfl⟩, join_core L X hr hc hm hp⟩

section sorts
open Go.Sort
variable {α : Type}
theorem flat1 {enc : α → Value} : ∀ l : List α, (rowOf (fun x => [C.lit (enc x)]) l).flatten = l.map fun x => A.c (.lit (enc x))
  | [] => rfl
  | x :: l => by
    have : rowOf (fun x => [C.lit (enc x)]) (x :: l) = [A.c (.lit (enc x))] :: rowOf (fun x => [C.lit (enc x)]) l := rfl
    rw [this, List.flatten_cons, flat1 l]; rfl
theorem lits_all2 {M : Mem} {ι : Iota} {enc : α → Value} : ∀ l : List α, All2 (RepA M ι) (l.map fun x => A.c (.lit (enc x))) (l.map enc)
  | [] => trivial
  | x :: l => ⟨RepC.lit _, lits_all2 l⟩
theorem all2_lits {M : Mem} {ι : Iota} {enc : α → Value} : ∀ {l : List α} {xs : List Value}, All2 (RepA M ι) (l.map fun x => A.c (.lit (enc x))) xs → xs = l.map enc
  | [], [], _ => rfl
  | x :: l, y :: ys, h => by
    have h1 : y = enc x := by have := h.1; cases this; rfl
    rw [List.map_cons, h1, all2_lits h.2]
  | [], _ :: _, h => h.elim
  | _ :: _, [], h => h.elim
/-- What sorts a row in place. -/
theorem Prim.sort_row [Inhabited α] {f : FuncId} {enc : α → Value} {l l' : List α} {e : TypeId} (o nx : Nat) (h1 : ∀ x, (enc x).oneCell' = true) (hlen : l'.length = l.length)
    (hc : ∀ blk off cap w, Go.Sort.Holds enc w blk off l.toArray → blk < w.heap.size → Calls P f #[.slice (some ⟨blk, off, none⟩) l.length cap] w fun e w' => e = .returned (.tuple #[]) ∧ ∃ n os, w' = grow (putRow enc (Sort.ahead w n) blk off l'.toArray) os)
    (hn : l = [] → ∀ p cap w, Calls P f #[.slice p 0 cap] w fun e w' => e = .returned (.tuple #[]) ∧ w' = w) :
    OkH P f [.one (.obj o)] [(o, .row e 1 (rowOf (fun x => [C.lit (enc x)]) l))] nx fun v H' _ => v = .tup [] ∧ H' = [(o, .row e 1 (rowOf (fun x => [C.lit (enc x)]) l'))] := by
  intro M ι vs w ha hi
  match vs, ha with
  | [u], ha =>
    obtain ⟨sz, hu⟩ := ha.1
    obtain ⟨y, hy, xs, hz, ho, hs, h2, h3⟩ := hi.ob _ List.mem_cons_self
    simp only at hy
    rw [hu] at hy; cases hy
    have hz' : sz = 1 := hz
    subst hz'
    rw [flat1] at h2
    have hxs := all2_lits h2
    rw [rowOf_length] at ho
    have hrep : RepV M ι (.tup []) (.tuple #[]) := ⟨[], rfl, trivial⟩
    by_cases hl : l = []
    · have hl' : l' = [] := List.eq_nil_of_length_eq_zero (by rw [hlen, hl]; rfl)
      have hsl : ∃ p cap, u = .slice p 0 cap := by
        rcases ho.2 with ⟨h4, h5⟩ | ⟨g, off, cap, cur, h4, _⟩
        · exact ⟨_, _, h4⟩
        · rw [hl] at h4; exact ⟨_, _, h4⟩
      obtain ⟨p, cap, rfl⟩ := hsl
      refine (hn hl p cap w).mono fun e' w' ⟨he, hw⟩ => ⟨_, M, ι, .tup [], [(o, .row e 1 (rowOf (fun x => [C.lit (enc x)]) l))], nx, he, ⟨rfl, ?_⟩, hrep, ?_⟩
      · rw [hl, hl']
      · subst hw
        exact ⟨hi, .refl _, .refl _, Nat.le_refl _, .refl _ _ _ _ _, .refl _ _, fun p hp x b hx hb => .inl ⟨_, List.mem_singleton.2 rfl, x, by rw [List.mem_singleton.1 hp] at hx; exact hx, hb⟩⟩
    · rcases ho.2 with ⟨h4, h5⟩ | ⟨g, off, cap, cur, h4, ⟨fz, hh, hcl⟩, h5, h6, h7, h8⟩
      · exact absurd (List.eq_nil_of_length_eq_zero h5) hl
      · have hv : u = .slice (some ⟨g, off, none⟩) l.length cap := h4
        subst hv
        have hlt : g < w.heap.size := (Array.getElem?_eq_some_iff.1 hh).1
        have hle : off + l.length ≤ cur.size := by omega
        have hcell : ∀ j, j < l.length → cur[off + j]? = (l.map enc)[j]? := fun j hj => by
          rw [← hxs, ← h8, List.getElem?_take, if_pos (by omega), List.getElem?_drop]
          exact (Array.getElem?_toList ..).symm
        have hH : Go.Sort.Holds enc w g off l.toArray := fun j hj => by
          have hj' : j < l.length := by simpa using hj
          have h9 := hcell j hj'
          have h10 : (l.map enc)[j]? = some (enc l[j]) := by simp [hj']
          refine ⟨?_, ?_⟩
          · simp only [World.cell?, hh]
            rw [h9, h10]
            congr 2
            simp [hj']
          · simp only [World.frozen?, hh]
            have := hcl (off + j) (by omega)
            cases fz with
            | mk a b =>
              simp only at this ⊢
              rw [Bool.and_eq_false_iff]
              by_cases h11 : a ≤ off + j
              · right; simp; omega
              · left; simp; omega
        refine (hc g off cap w hH hlt).mono fun e' w' ⟨he, n, os, hw⟩ => ?_
        have hsame : ∀ k, k < w.heap.size → w'.heap[k]? = (setBlk w g (.cells (putCells enc off l'.toArray cur) e fz)).heap[k]? := fun k hk => by
          rw [hw]
          have h9 : (grow (putRow enc (Sort.ahead w n) g off l'.toArray) os).heap[k]? = (w.heap.modify g (onCells (putCells enc off l'.toArray)))[k]? := by
            show ((w.heap.modify g (onCells (putCells enc off l'.toArray))) ++ os)[k]? = _
            rw [Array.getElem?_append, if_pos (by rw [Array.size_modify]; exact hk)]
          rw [h9, Array.getElem?_modify]
          by_cases hk' : g = k
          · subst hk'; rw [if_pos rfl, hh]
            simp [setBlk, onCells, hlt]
          · rw [if_neg hk', setBlk_other (Ne.symm hk')]
        have hsz : w.heap.size ≤ w'.heap.size := by
          rw [hw]
          show _ ≤ ((w.heap.modify g (onCells (putCells enc off l'.toArray))) ++ os).size
          rw [Array.size_append, Array.size_modify]; omega
        have hx : ι o = some (Value.slice (some ⟨g, off, none⟩) l.length cap, 1) := hu
        have hll : (putCells enc off l'.toArray cur).size = cur.size := by simp [putCells]
        have hcore : InvH M ι [(o, .row e 1 (rowOf (fun x => [C.lit (enc x)]) l'))] nx (setBlk w g (.cells (putCells enc off l'.toArray cur) e fz)) := by
          refine hi.upd (k := 0) (ob' := .row e 1 (rowOf (fun x => [C.lit (enc x)]) l')) rfl hx rfl ⟨l'.map enc, rfl, ⟨by simp [rowOf_length], .inr ⟨g, off, cap, putCells enc off l'.toArray cur, by rw [rowOf_length, hlen], ⟨fz, ?_, by rw [hll]; exact hcl⟩, by rw [rowOf_length, hlen]; exact h5, h6, by rw [hll]; exact h7, ?_⟩⟩, ?_, ?_, ?_⟩
          · simp [setBlk, hlt]
          · apply List.ext_getElem?
            intro j
            rw [rowOf_length, Nat.mul_one, List.getElem?_take, List.getElem?_map]
            by_cases hj : j < l'.length
            · rw [if_pos hj, List.getElem?_drop, Array.getElem?_toList]
              have h12 : off + j < cur.size := by omega
              simp only [putCells, Array.getElem?_mapIdx]
              rw [Array.getElem?_eq_getElem h12, Option.map_some, if_pos ⟨by omega, by simp; omega⟩, List.getElem?_eq_getElem hj, Option.map_some]
              congr 2
              rw [show off + j - off = j by omega]
              simp [hj]
            · rw [if_neg hj, List.getElem?_eq_none (by omega)]; rfl
          · intro y hy
            obtain ⟨z, _, rfl⟩ := List.mem_map.1 hy
            rfl
          · rw [flat1]; exact lits_all2 l'
          · intro z hz
            obtain ⟨q, _, rfl⟩ := List.mem_map.1 hz
            exact h1 q
        have hcore' := hcore.grown (w' := w') (row := none) (fun k hk _ => hsame k (by rw [setBlk_size] at hk; exact hk)) (fun b hb => by cases hb)
        refine ⟨_, M, ι, .tup [], _, nx, he, ⟨rfl, rfl⟩, hrep, hcore', .refl _, .refl _, Nat.le_refl _, .refl _ _ _ _ _, ⟨by rw [hw]; rfl, by rw [hw]; rfl, by rw [hw]; rfl, hsz, fun k hk hX => ?_⟩, fun p hp x b hx' hb => .inl ⟨_, List.mem_singleton.2 rfl, x, by rw [List.mem_singleton.1 hp] at hx'; exact hx', hb⟩⟩
        rw [hsame k hk]
        refine setBlk_other fun e => hX ?_
        subst e
        exact ⟨_, List.mem_singleton.2 rfl, _, hx, rfl⟩
def leI (x y : Int) : Bool := decide (x ≤ y)
def sortI (l : List Int) : List Int := l.mergeSort leI
def leS (x y : List UInt8) : Bool := decide (x ≤ y)
def sortS (l : List (List UInt8)) : List (List UInt8) := l.mergeSort leS
def sortIC (l : List Int) : Option (List Int) := ckN l.length (some (sortI l))
def sortSC (l : List (List UInt8)) : Option (List (List UInt8)) := ckN l.length (some (sortS l))
theorem Prim.sortI (L : Lays.n189 P ρ) {l r : List Int} {e : TypeId} (hr : sortIC l = some r) (o nx : Nat) :
    OkH P (ρ.f 189) [.one (.obj o)] [(o, .row e 1 (rowOf encI l))] nx fun v H' _ => v = .tup [] ∧ H' = [(o, .row e 1 (rowOf encI r))] := by
  obtain ⟨hl, hr⟩ := ckN_inv hr
  have hr := Option.some.inj hr
  subst hr
  exact Prim.sort_row (enc := Value.int .i64) o nx (fun _ => rfl) (by simp [Fl.sortI]) (fun blk off cap w hH hb => Any.slices_Sort_int L blk off cap l w hH hb (by omega)) (fun h p cap w => Any.slices_Sort_int_none L p cap w)
theorem Prim.sortS (L : Lays.n190 P ρ) {l r : List (List UInt8)} {e : TypeId} (hr : sortSC l = some r) (o nx : Nat) :
    OkH P (ρ.f 190) [.one (.obj o)] [(o, .row e 1 (rowOf encS l))] nx fun v H' _ => v = .tup [] ∧ H' = [(o, .row e 1 (rowOf encS r))] := by
  obtain ⟨hl, hr⟩ := ckN_inv hr
  have hr := Option.some.inj hr
  subst hr
  exact Prim.sort_row (enc := str) o nx (fun _ => rfl) (by simp [Fl.sortS]) (fun blk off cap w hH hb => Any.slices_Sort_string L blk off cap l w hH hb (by omega)) (fun h p cap w => Any.slices_Sort_string_none L p cap w)
end sorts
end
end Go.Fl
