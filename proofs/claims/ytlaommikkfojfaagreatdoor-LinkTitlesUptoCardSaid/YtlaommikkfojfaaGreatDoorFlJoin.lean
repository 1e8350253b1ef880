/- Weaker states by their lists; ways that meet again; what is sealed. Lemmas alone. -/
import Derived.Test.YtlaommikkfojfaaGreatDoorFlCall
namespace Go.Fl
open Go
section
variable {P : Program} {st s1 : St} {Q : Exit → St → Prop} {c d : Code}

def St.keepH (st : St) (ks : List Nat) : St := { st with H := ks.filterMap fun k => st.H[k]? }

theorem erase_perm {α : Type} : ∀ (l : List α) (k : Nat) (x : α), l[k]? = some x → l.Perm (x :: l.eraseIdx k)
  | a :: l, 0, x, h => by simp at h; subst h; exact .refl _
  | a :: l, k + 1, x, h => by
    simp only [List.getElem?_cons_succ] at h
    exact (List.Perm.cons a (erase_perm l k x h)).trans (.swap x a _)
  | [], _, _, h => by simp at h

theorem Weak.one (k : Nat) {o : Nat} {ob : Ob} (hk : st.H[k]? = some (o, ob)) : Weak st { st with H := (o, ob) :: st.H.eraseIdx k } := Weak.perm (erase_perm _ _ _ hk)

theorem filterMap_same {α β : Type} {f g : α → Option β} : ∀ (l : List α), (∀ x ∈ l, f x = g x) → l.filterMap f = l.filterMap g
  | [], _ => rfl
  | a :: l, h => by
    have := filterMap_same l fun x hx => h x (List.mem_cons_of_mem _ hx)
    simp only [List.filterMap_cons, h a List.mem_cons_self, this]

/-- The objects ks, without those that are named twice. -/
theorem filterMap_subperm {α : Type} (l : List α) : ∀ (ks : List Nat), ks.Nodup → ∃ r, (ks.filterMap fun k => l[k]?).Perm r ∧ r.Sublist l := by
  intro ks hn
  -- by counting places
  have key : ∀ (l : List α) (ks : List Nat), ks.Nodup → ∃ r, (ks.filterMap fun k => l[k]?).Perm r ∧ r.Sublist l := by
    intro l
    induction l with
    | nil => intro ks _; exact ⟨[], by simp, .refl _⟩
    | cons a l ih =>
      intro ks hn
      have hn' : ((ks.filter (· ≠ 0)).map (· - 1)).Nodup := by
        have h1 : (ks.filter (· ≠ 0)).Nodup := hn.filter _
        refine (List.pairwise_map.2 (h1.imp_of_mem fun {a b} ha hb hab => ?_))
        simp only [List.mem_filter, ne_eq, decide_not, Bool.not_eq_eq_eq_not, Bool.not_true, decide_eq_false_iff_not] at ha hb
        omega
      obtain ⟨r, h1, h2⟩ := ih _ hn'
      have h3 : ((ks.filter (· ≠ 0)).map (· - 1)).filterMap (fun k => l[k]?) = (ks.filter (· ≠ 0)).filterMap fun k => (a :: l)[k]? := by
        rw [List.filterMap_map]
        apply filterMap_same
        intro k hk
        simp only [List.mem_filter, ne_eq, decide_not, Bool.not_eq_eq_eq_not, Bool.not_true, decide_eq_false_iff_not] at hk
        obtain ⟨m, rfl⟩ : ∃ m, k = m + 1 := ⟨k - 1, by omega⟩
        simp
      rw [h3] at h1
      by_cases h0 : 0 ∈ ks
      · have hp : ks.Perm (0 :: ks.filter (· ≠ 0)) := by
          have e1 := List.filter_append_perm (fun k => decide (k = 0)) ks
          have e2 : ks.filter (fun k => decide (k = 0)) = [0] := by
            have : (ks.filter fun k => decide (k = 0)) = List.replicate (ks.count 0) 0 := by
              rw [← List.filter_beq]
              apply List.filter_congr
              intro x _
              by_cases hx : x = 0 <;> simp [hx]
            rw [this, hn.count, if_pos h0]
            rfl
          have e3 : (ks.filter fun x => !decide (x = 0)) = ks.filter (· ≠ 0) := by
            apply List.filter_congr
            intro x _
            simp
          rw [e2, e3] at e1
          exact e1.symm
        exact ⟨a :: r, (hp.filterMap _).trans (by simpa using List.Perm.cons a h1), h2.cons_cons a⟩
      · have he : ks.filter (· ≠ 0) = ks := by
          apply List.filter_eq_self.2
          intro x hx
          have : x ≠ 0 := fun e => h0 (e ▸ hx)
          simp [this]
        rw [he] at h1
        exact ⟨r, h1, h2.cons a⟩
  exact key l ks hn
theorem Weak.keepH (ks : List Nat) (hn : ks.Nodup) : Weak st (st.keepH ks) := by
  obtain ⟨r, h1, h2⟩ := filterMap_subperm st.H ks hn
  exact (Weak.drop h2).trans (Weak.perm h1.symm)
/-- To a state that is written out: its slots, its objects. -/
theorem Weak.to (fs ks : List Nat) (h : (st.keep fs).keepH ks = s1) (hn : ks.Nodup := by decide) : Weak st s1 := h ▸ (Weak.keep fs).trans (Weak.keepH ks hn)

/-- Ways that meet again, in one of the states I x. -/
theorem Tri.meet {ro : Option Nat} {α : Type} (p : α → Prop) (I : α → St) (h : Tri P c st (Then (fun s => ∃ x, p x ∧ Weak s (I x)) Q) ro) (k : ∀ x, p x → Tri P d (I x) Q ro) : Tri P (.seq c d) st Q ro :=
  Tri.seq (h.mono fun e s hq => by
    cases e with
    | normal => obtain ⟨x, hp, hw⟩ := hq; exact (k x hp).weak hw
    | _ => exact hq)
theorem TOps.meet {ro : Option Nat} {id : Nat} {l : List Oper} {α : Type} (p : α → Prop) (I : α → St) (h : TOps P l.toArray l st (Then (fun s => ∃ x, p x ∧ Weak s (I x)) Q) ro) (k : ∀ x, p x → Tri P d (I x) Q ro) : Tri P (.seq (.region id l.toArray false) d) st Q ro :=
  Tri.meet p I (Tri.region h) k
theorem meet_mk {α : Type} {p : α → Prop} {I : α → St} {s : St} (x : α) (hp : p x) (hw : Weak s (I x)) : ∃ x, p x ∧ Weak s (I x) := ⟨x, hp, hw⟩
theorem back_mk {α : Type} {p : α → Prop} {I : α → St} {mu : α → Nat} {n : Nat} {s : St} (x : α) (hp : p x) (hm : mu x < n) (hw : Weak s (I x)) : ∃ x', p x' ∧ mu x' < n ∧ Weak s (I x') := ⟨x, hp, hm, hw⟩


theorem all2_flatten_get {M : Mem} {ι : Iota} {sz : Nat} {es : List (List C)} {xs : List Value} (hs : ∀ y ∈ clos es, y.length = sz) (h : All2 (RepA M ι) (clos es).flatten xs) {i j : Nat} {e : List C} {x : C} (h1 : es[i]? = some e) (h2 : e[j]? = some x) :
    ∃ u, xs[i * sz + j]? = some u ∧ RepC M x u := by
  have h3 : (clos es)[i]? = some (e.map A.c) := by simp [clos, h1]
  have h4 : (e.map A.c)[j]? = some (.c x) := by simp [h2]
  exact h.get (getElem?_flatten hs h3 h4)

/-- A slice of the call's own, that nobody writes any more, is closed. -/
theorem Inv.sealC {o sz : Nat} {e : TypeId} {es : List (List C)} {G : Gh} {M : Mem} {ι : Iota} {a : Act} {w : World} (hi : Inv G M ι st a w) (k : Nat) (hk : st.H[k]? = some (o, .row e sz (clos es))) :
    ∃ M', MLe M M' ∧ Inv G M' ι { st with H := st.H.eraseIdx k } a w ∧ ∀ u z, ι o = some (u, z) → z = sz ∧ RepC M' (.ro sz false es) u := by
  obtain ⟨x, hx, xs, h0, ho, hs, h2, h1⟩ := hi.core.ob _ (getElem?_mem hk)
  obtain ⟨u, sz'⟩ := x
  simp only at hx h0; subst h0
  have hsub : (st.H.eraseIdx k).Sublist st.H := List.eraseIdx_sublist ..
  have hlenc : (clos es).length = es.length := by simp [clos]
  have hs' : ∀ y ∈ clos es, y.length = sz' := hs
  have done : ∀ M', MLe M M' → RepC M' (.ro sz' false es) u → InvH M' ι (st.H.eraseIdx k) st.nx w → Past G.X G.w0.heap.size G.nx0 G.M0 G.ι0 M' ι → ∃ M', MLe M M' ∧ Inv G M' ι { st with H := st.H.eraseIdx k } a w ∧ ∀ v z, ι o = some (v, z) → z = sz' ∧ RepC M' (.ro sz' false es) v := by
    intro M' hM hrep hcore hpast
    refine ⟨M', hM, ⟨hcore, frame_mono hM (.refl _) hi.fr, hi.size, hi.defers, hi.M0.trans hM, hi.ι0, hi.kept, fun p hp => hi.own p (hsub.subset hp), hpast, hi.past.2⟩, fun v z hv => ?_⟩
    rw [hx] at hv; cases hv
    exact ⟨rfl, hrep⟩
  rcases ho.2 with ⟨hv, hn⟩ | ⟨b, off, cap, cur, hv, hh, hnc, hcm, hcs, htk⟩
  · have hes : es = [] := List.eq_nil_of_length_eq_zero (by have h9 : (clos es).length = 0 := hn; omega)
    subst hes
    simp only at hv; subst hv
    exact done M (.refl _) (.nil _ _ _ _ (fun _ => rfl) (fun h => by cases h) (Nat.zero_le _)) (hi.core.sub hsub) hi.past.1
  · have hblk : blk u = some b := by simp only at hv; rw [hv]; rfl
    have hfree := hi.core.free _ (getElem?_mem hk) _ b hx hblk
    have hoth := hi.core.other hk hx hblk
    have hcell : ∀ (i : Nat) (y : Value), xs[i]? = some y → w.cell? ⟨b, off + i, none⟩ = some y := fun i y hy => by
      have h9 := owns_cell ho hblk hy
      have h8 : offV u = off := by simp only at hv; rw [hv]; rfl
      rwa [h8] at h9
    let M' : Mem := fun b' i => if b' = b then (if off ≤ i then xs[i - off]? else none) else M b' i
    have hM : MLe M M' := fun b' i y hy => by
      simp only [M']
      by_cases hb : b' = b
      · subst hb; rw [hfree i] at hy; cases hy
      · rw [if_neg hb]; exact hy
    refine done M' hM ?_ ⟨hi.core.dom, hi.core.one, fun p hp => ?_, hi.core.sep.sublist hsub, fun b' i y hy => ?_, fun p hp x b' hx' hb' i => ?_⟩ ⟨fun b' i h0' h1' => ?_, hi.past.1.olds⟩
    · by_cases hes : es = []
      · subst hes
        simp only [clos, List.map_nil, List.length_nil] at hv
        rw [hv]
        exact .nil _ _ _ _ (fun h => by cases h) (fun h => by cases h) hcm
      · have := RepC.ro (M := M') sz' false es b off cap (fun i j => xs[i * sz' + j]?.getD undef) hes (fun e he => by
            have := hs' (e.map A.c) (by simp only [clos]; exact List.mem_map_of_mem he)
            simpa using this) (by rw [← hlenc]; exact hnc) hcm (fun h => by cases h) (fun i e j x h3 h4 => ?_) (fun i e j x h3 h4 => ?_)
        · rw [hlenc] at hv
          simp only at hv
          rw [hv]; exact this
        · obtain ⟨y, hy, _⟩ := all2_flatten_get hs' h2 h3 h4
          have h7 : off ≤ off + (i * sz' + j) := by omega
          simp only [M', if_true, h7, Nat.add_sub_cancel_left, hy, Option.getD_some]
        · obtain ⟨y, hy, hr⟩ := all2_flatten_get hs' h2 h3 h4
          simp only [hy, Option.getD_some]
          exact hr.mono hM
    · obtain ⟨y, hy, hob⟩ := hi.core.ob p (hsub.subset hp)
      exact ⟨y, hy, hob.mono hM (.refl _) fun _ _ => rfl⟩
    · simp only [M'] at hy
      by_cases hb : b' = b
      · subst hb
        rw [if_pos rfl] at hy
        by_cases h7 : off ≤ i
        · rw [if_pos h7] at hy
          have := hcell (i - off) y hy
          rw [show off + (i - off) = i by omega] at this
          exact ⟨this, h1 y (List.mem_of_getElem? hy)⟩
        · rw [if_neg h7] at hy; cases hy
      · rw [if_neg hb] at hy; exact hi.core.mem b' i y hy
    · have hne : b' ≠ b := fun e => hoth p hp x hx' (e ▸ hb')
      simp only [M', if_neg hne]
      exact hi.core.free p (hsub.subset hp) x b' hx' hb' i
    · by_cases hb : b' = b
      · subst hb; exact hi.own _ (getElem?_mem hk) _ b' hx hblk
      · simp only [M', if_neg hb] at h1'; exact hi.past.1.seals b' i h0' h1'

theorem set_same {α : Type} {l : List α} {q : Nat} {y : α} (h : l[q]? = some y) : l.set q y = l := by
  apply List.ext_getElem?
  intro i
  rw [List.getElem?_set]
  split
  · rename_i h1; subst h1
    split
    · exact h.symm
    · rename_i h2; rw [List.getElem?_eq_none (by omega)]
  · rfl
theorem Weak.sealC {o sz : Nat} {e : TypeId} {es : List (List C)} (k t : Nat) (hk : st.H[k]? = some (o, .row e sz (clos es))) (ht : st.get t = some (.one (.obj o))) : Weak st ({ st with H := st.H.eraseIdx k }.set (some t) (.c (.ro sz false es))) := by
  intro G M ι a w hi
  obtain ⟨M', hM, hi', hr⟩ := hi.sealC k hk
  obtain ⟨u, hu, z, hz⟩ := hi.get ht
  obtain ⟨rfl, hrep⟩ := hr u z hz
  refine ⟨M', ι, hi'.core, fun k v hk => ?_, hi'.size, hi'.defers, hi'.M0, hi'.ι0, hi'.kept, hi'.own, hi'.past⟩
  simp only [St.set, setD, look] at hk
  cases hb : Nat.beq t k with
  | true =>
    have : t = k := Nat.eq_of_beq_eq_true hb
    subst this
    rw [hb] at hk
    simp only [Option.some.injEq] at hk; subst hk
    exact ⟨u, hu, hrep⟩
  | false => rw [hb] at hk; exact hi'.fr k v hk
theorem Weak.seal2 {o sz : Nat} {e : TypeId} {es : List (List C)} {as : List A} (k t q : Nat) (hk : st.H[k]? = some (o, .row e sz (clos es))) (ht : st.get t = some (.agg as)) (hq : as[q]? = some (.obj o)) : Weak st ({ st with H := st.H.eraseIdx k }.set (some t) (.agg (as.set q (.c (.ro sz false es))))) := by
  intro G M ι a w hi
  obtain ⟨M', hM, hi', hr⟩ := hi.sealC k hk
  obtain ⟨u, hu, us, hus, h2⟩ := hi.get ht
  refine ⟨M', ι, hi'.core, fun k v hk => ?_, hi'.size, hi'.defers, hi'.M0, hi'.ι0, hi'.kept, hi'.own, hi'.past⟩
  simp only [St.set, setD, look] at hk
  cases hb : Nat.beq t k with
  | true =>
    have : t = k := Nat.eq_of_beq_eq_true hb
    subst this
    rw [hb] at hk
    simp only [Option.some.injEq] at hk; subst hk
    refine ⟨u, hu, us, hus, ?_⟩
    obtain ⟨y, hy, z, hz⟩ := h2.get hq
    obtain ⟨rfl, hrep⟩ := hr y z hz
    have h3 := (h2.mono fun _ _ h => RepA.mono hM (.refl ι) h).set (a := A.c (.ro z false es)) (b := y) q hrep
    rwa [set_same hy] at h3
  | false => rw [hb] at hk; exact hi'.fr k v hk
/-- A nil slice is a closed one. -/
theorem Weak.nilR {st : St} (t sz : Nat) (ht : st.get t = some (.lit (.slice none 0 0))) : Weak st (st.set (some t) (.c (.ro sz false []))) := by
  intro G M ι a w hi
  obtain ⟨u, hu, hr⟩ := hi.get ht
  cases hr
  refine ⟨M, ι, hi.core, fun k v hk => ?_, hi.size, hi.defers, hi.M0, hi.ι0, hi.kept, hi.own, hi.past⟩
  simp only [St.set, setD, look] at hk
  cases hb : Nat.beq t k with
  | true =>
    have : t = k := Nat.eq_of_beq_eq_true hb
    subst this
    rw [hb] at hk
    simp only [Option.some.injEq] at hk; subst hk
    exact ⟨_, hu, RepC.nil _ _ _ _ (fun _ => rfl) (fun _ => rfl) (Nat.zero_le _)⟩
  | false => rw [hb] at hk; exact hi.fr k v hk
theorem Weak.nilG {st : St} {as : List A} (t q sz : Nat) (ht : st.get t = some (.agg as)) (hq : as[q]? = some (.c (.lit (.slice none 0 0)))) : Weak st (st.set (some t) (.agg (as.set q (.c (.ro sz false []))))) := by
  intro G M ι a w hi
  obtain ⟨u, hu, us, hus, h2⟩ := hi.get ht
  refine ⟨M, ι, hi.core, fun k v hk => ?_, hi.size, hi.defers, hi.M0, hi.ι0, hi.kept, hi.own, hi.past⟩
  simp only [St.set, setD, look] at hk
  cases hb : Nat.beq t k with
  | true =>
    have : t = k := Nat.eq_of_beq_eq_true hb
    subst this
    rw [hb] at hk
    simp only [Option.some.injEq] at hk; subst hk
    refine ⟨u, hu, us, hus, ?_⟩
    obtain ⟨y, hy, hz⟩ := h2.get hq
    cases hz
    have hrep : RepA M ι (.c (.ro sz false [])) (.slice none 0 0) := RepC.nil _ _ _ _ (fun _ => rfl) (fun _ => rfl) (Nat.zero_le _)
    have h3 := h2.set q hrep
    rwa [set_same hy] at h3
  | false => rw [hb] at hk; exact hi.fr k v hk

theorem map_get {α β : Type} {l : List α} {f : α → β} {i : Nat} {x : α} (h : l[i]? = some x) : (l.map f)[i]? = some (f x) := by simp [h]
/-- The rows of typed values. -/
def rowOf {α : Type} (f : α → List C) (l : List α) : List (List A) := l.map fun x => (f x).map A.c
theorem row_get {α : Type} {l : List α} {f : α → List C} {i : Nat} {x : α} (h : l[i]? = some x) : (rowOf f l)[i]? = some ((f x).map A.c) := by simp [rowOf, h]
theorem rowOf_length {α : Type} {l : List α} {f : α → List C} : (rowOf f l).length = l.length := by simp [rowOf]
theorem rowOf_clos {α : Type} {l : List α} {f : α → List C} : clos (l.map f) = rowOf f l := by simp [clos, rowOf]
theorem rowOf_append {α : Type} {l m : List α} {f : α → List C} : rowOf f (l ++ m) = rowOf f l ++ rowOf f m := by simp [rowOf]
theorem rowOf_app {α : Type} (f : α → List C) (l m : List α) : rowOf f l ++ clos (m.map f) = rowOf f (l ++ m) := by rw [rowOf_clos, ← rowOf_append]
theorem clos_length (l : List (List C)) : (clos l).length = l.length := by simp [clos]
/-- A row said in other words. -/
theorem Weak.rw {o sz : Nat} {e : TypeId} {es es' : List (List A)} (k : Nat) (hk : st.H[k]? = some (o, .row e sz es)) (he : es = es') : Weak st { st with H := st.H.set k (o, .row e sz es') } := by
  subst he
  have : st.H.set k (o, .row e sz es) = st.H := by
    apply List.ext_getElem?
    intro i
    rw [List.getElem?_set]
    split
    · rename_i h; subst h
      split
      · exact hk.symm
      · rename_i h2; rw [List.getElem?_eq_none (by omega)]
    · rfl
  rw [this]
  exact Weak.refl st

def encI (n : Int) : List C := [.lit (.int .i64 n)]
def encK (k : IntKind) (n : Int) : List C := [.lit (.int k n)]
def encO (b : Bool) : List C := [.lit (.bool b)]
def encS (s : List UInt8) : List C := [.lit (str s)]
def encL {α : Type} (sz : Nat) (f : α → List C) (l : List α) : List C := [.ro sz false (l.map f)]
end
end Go.Fl
