/- Regions that draw their order, over states: what only reads is taken first. Lemmas alone. -/
import Derived.Test.YtlaommikkfojfaaGreatDoorFlRules
import Derived.OrdersHeld
namespace Go.Fl
open Go
section
variable {P : Program} {ops : Array Oper} {Q : Exit → St → Prop} {n nx : Nat} {fr : Fr} {d : Option Nat}

theorem BlkOf.mono {ι ι' : Iota} (h : ILe ι ι') {H H' : List (Nat × Ob)} (hs : ∀ p ∈ H, p ∈ H') {b : Nat} : BlkOf ι H b → BlkOf ι' H' b := fun ⟨p, hp, x, hx, hb⟩ => ⟨p, hs p hp, x, h _ _ hx, hb⟩
theorem Kept.weaken {X Y : Nat → Prop} {w w' : World} (h : Kept X w w') (hs : ∀ b, b < w.heap.size → X b → Y b) : Kept Y w w' := ⟨h.os, h.tape, h.output, h.size, fun k hk hy => h.block k hk fun hx => hy (hs k hk hx)⟩

/-- What stands aside stays, when something happens to the objects HE alone. -/
theorem Does.framed {G : Gh} {M : Mem} {ι : Iota} {a : Act} {w : World} {o : Oper} {HE HS : List (Nat × Ob)} {R : St → Prop} (hi : Inv G M ι ⟨n, fr, HE ++ HS, nx⟩ a w) (hd : Does P o ⟨n, fr, HE, nx⟩ R)
    (K : Act → World → Prop) (Q : Exit → Act → World → Prop)
    (hK : ∀ st' M' ι' a' w', R st' → Inv G M' ι' ⟨st'.n, st'.fr, st'.H ++ HS, st'.nx⟩ a' w' → Kept (BlkOf ι HE) w w' → (∀ p ∈ st'.H, ∀ x b, ι' p.1 = some x → blk x.1 = some b → BlkOf ι HE b ∨ w.heap.size ≤ b) → ILe ι ι' → K a' w') : o.wp P a w K Q := by
  have hc := hi.core
  have hcH : InvH M ι HE nx w := hc.sub (List.sublist_append_left ..)
  have hiE : Inv ⟨w, M, ι, BlkOf ι HE, nx, G.df⟩ M ι ⟨n, fr, HE, nx⟩ a w :=
    ⟨hcH, hi.fr, hi.size, hi.defers, .refl _, .refl _, .refl _ _, fun p hp x b hx hb => .inl ⟨p, hp, x, hx, hb⟩, ⟨⟨fun _ _ h1 h2 => absurd h1 h2, fun _ _ h _ => h⟩, Nat.le_refl _⟩⟩
  refine hd.go _ _ _ _ _ hiE K Q fun st' M' ι' a' w' hr hi' => ?_
  obtain ⟨c', hfr, hsize, hdef, hM, hι, hkept, hown, hpast, hnx⟩ := hi'
  have hsepA := List.pairwise_append.1 hc.sep
  have ob1 : ∀ p ∈ HS, ∃ x, ι p.1 = some x ∧ RepOb M ι w x p.2 := fun p hp' => hc.ob p (List.mem_append_right _ hp')
  have notX : ∀ p ∈ HS, ∀ x b, ι p.1 = some x → blk x.1 = some b → ¬ BlkOf ι HE b := fun p hp' x b hx hb ⟨q, hq', y, hy, hyb⟩ => hsepA.2.2 q hq' p hp' y x b hy hx hyb hb
  have same1 : ∀ p ∈ HS, ∀ x, ι' p.1 = some x → ι p.1 = some x := fun p hp' x hx => by
    obtain ⟨y, hy, _⟩ := ob1 p hp'
    have := hι _ _ hy
    rw [hx] at this; cases this; exact hy
  have lt1 : ∀ p ∈ HS, ∀ x b, ι p.1 = some x → blk x.1 = some b → b < w.heap.size := fun p hp' x b hx hb => by
    obtain ⟨y, hy, ho⟩ := ob1 p hp'
    rw [hx] at hy; cases hy
    exact ho.lt b hb
  have core : InvH M' ι' (st'.H ++ HS) st'.nx w' := by
    refine ⟨c'.dom, c'.one, fun p hp' => ?_, ?_, c'.mem, fun p hp' => ?_⟩
    · rcases List.mem_append.1 hp' with hp' | hp'
      · exact c'.ob p hp'
      · obtain ⟨x, hx, ho⟩ := ob1 p hp'
        exact ⟨x, hι _ _ hx, ho.mono hM hι fun b hb => hkept.block b (lt1 p hp' x b hx hb) (notX p hp' x b hx hb)⟩
    · refine List.pairwise_append.2 ⟨c'.sep, hsepA.2.1.imp_of_mem fun {p q} hp' hq' h x y b hx hy => h x y b (same1 p hp' x hx) (same1 q hq' y hy), fun p hp' q hq' x y b hx hy hb hb' => ?_⟩
      have hy' := same1 q hq' y hy
      rcases hown p hp' x b hx hb with hX | hge
      · exact notX q hq' y b hy' hb' hX
      · have := lt1 q hq' y b hy' hb'; simp only at hge; omega
    · rcases List.mem_append.1 hp' with hp' | hp'
      · exact c'.free p hp'
      · intro x b hx hb k
        have hx' := same1 p hp' x hx
        cases hM' : M' b k with
        | none => rfl
        | some u =>
          have h0 := hc.free p (List.mem_append_right _ hp') x b hx' hb k
          rcases hpast.seals b k h0 (by rw [hM']; simp) with hX | hge
          · exact absurd hX (notX p hp' x b hx' hb)
          · have := lt1 p hp' x b hx' hb; simp only at hge; omega
  have hX : ∀ b, BlkOf ι HE b → G.X b ∨ G.w0.heap.size ≤ b := fun b ⟨p, hp', x, hx, hb⟩ => hi.own p (List.mem_append_left _ hp') x b hx hb
  have ge : ∀ b, w.heap.size ≤ b → G.w0.heap.size ≤ b := fun b hb => Nat.le_trans hi.kept.size hb
  refine hK st' M' ι' a' w' hr ⟨core, hfr, hsize, hdef, hi.M0.trans hM, hi.ι0.trans hι, hi.kept.trans hkept fun i hi' hx => (hX i hx).resolve_right (by omega), fun p hp' x b hx hb => ?_, ⟨⟨fun b k h0 h1 => ?_, fun o x hx ho => ?_⟩, Nat.le_trans hi.past.2 hnx⟩⟩ hkept hown hι
  · rcases List.mem_append.1 hp' with hp' | hp'
    · rcases hown p hp' x b hx hb with h | h
      · exact hX b h
      · exact .inr (ge b h)
    · exact hi.own p (List.mem_append_right _ hp') x b (same1 p hp' x hx) hb
  · cases hm : M b k with
    | none =>
      rcases hpast.seals b k hm h1 with h | h
      · exact hX b h
      · exact .inr (ge b h)
    | some u => exact hi.past.1.seals b k h0 (by rw [hm]; simp)
  · exact hi.past.1.olds o x (hpast.olds o x hx (Nat.lt_of_lt_of_le ho hi.past.2)) ho

/-- Worlds in which only the objects HE may have changed hold the others still. -/
theorem InvH.sameS {M : Mem} {ι : Iota} {HE HS : List (Nat × Ob)} {w w' : World} (h : InvH M ι (HE ++ HS) nx w) (hk : Kept (BlkOf ι HE) w w') : Same M ι HS w w' := by
  have hsepA := List.pairwise_append.1 h.sep
  refine ⟨fun b k u hu => ?_, fun p hp x b hx hb => ?_⟩
  · have h1 := (h.mem b k u hu).1
    have hlt : b < w.heap.size := by
      rcases Nat.lt_or_ge b w.heap.size with h' | h'
      · exact h'
      · simp [World.cell?, Array.getElem?_eq_none h'] at h1
    have := hk.block b hlt fun ⟨p, hp, x, hx, hb⟩ => by
      have := h.free p (List.mem_append_left _ hp) x b hx hb k
      rw [hu] at this; cases this
    simp only [World.cell?, this] at h1 ⊢
    exact h1
  · obtain ⟨y, hy, ho⟩ := h.ob p (List.mem_append_right _ hp)
    rw [hx] at hy; cases hy
    exact hk.block b (ho.lt b hb) fun ⟨q, hq, y, hy, hyb⟩ => hsepA.2.2 q hq p hp y x b hy hx hyb hb

/-- What a region's postcondition is while its order is drawn: no panic. -/
def LiftD (G : Gh) (Q : Exit → St → Prop) : Exit → Act → World → Prop
  | .panic _ => fun _ _ => False
  | e => Lift G Q e

/-- Whatever order is picked from here on: HE are the objects that what is left may change. -/
def TAny (P : Program) (ops : Array Oper) (fuel : Nat) (listed : Array Bool) (HE HS : List (Nat × Ob)) (n : Nat) (fr : Fr) (nx : Nat) (Q : Exit → St → Prop) : Prop :=
  ∀ G M ι a w, Inv G M ι ⟨n, fr, HE ++ HS, nx⟩ a w → ∀ S : World → Prop, (∀ w', Kept (BlkOf ι HE) w w' → S w') → wpAnyH P .any ops (LiftD G Q) S fuel listed a w

theorem wpAnyH_S {S S' : World → Prop} {md : Region.Mode} {Q : Exit → Act → World → Prop} (h : ∀ w, S' w → S w) : ∀ (fuel : Nat) (listed : Array Bool) (a : Act) (w : World), wpAnyH P md ops Q S' fuel listed a w → wpAnyH P md ops Q S fuel listed a w
  | 0, _, _, _, hh => hh
  | fuel + 1, _, _, _, hh => ⟨hh.1, fun i hi => wpOp_mono (fun _ _ h' => ⟨h _ h'.1, wpAnyH_S h fuel _ _ _ h'.2⟩) (hh.2 i hi)⟩

theorem Tri.draw {id : Nat} {l : List Oper} (N : Nat) (hN : l.length = N) (hm : P.follows .mixedOrders = true) (HE HS : List (Nat × Ob)) {H : List (Nat × Ob)} (hH : H = HE ++ HS) (h : TAny P l.toArray N (Array.replicate N false) HE HS n fr nx Q) : Tri P (.region id l.toArray true) ⟨n, fr, H, nx⟩ Q := by
  subst hH; subst hN
  intro G M ι a w hi
  have h1 := h G M ι a _ (hi.drew (w.drawn + 1)) (fun _ => True) (fun _ _ => trivial)
  refine wpIn_wide.2 <| wp_mono (wp_region_any hm (by simpa using wpAny_of_held _ _ _ _ h1)) fun e a' w' h2 => ?_
  cases e with
  | panic c => exact h2.elim
  | _ => exact h2

/-- What yields one value, and reads of no object that the rest may change, is taken first. -/
theorem TAny.flo {fuel : Nat} {listed : Array Bool} {HE HS : List (Nat × Ob)} {op : Op} {ty : TypeId} {pos : String} {aft : Array Edge} {g : Option (Nat × Bool)} {v : V} (i : Nat) (hi : ops[i]? = some ⟨d, op, ty, pos, aft, g⟩) (hs : Region.noSelect ops = true) (hf : Region.free .any ops listed i = true)
    (hr : (Region.ready .any ops listed).contains i = true) (hg : Gd ops fr g) (h : Flo P ⟨d, op, ty, pos, aft, g⟩ ⟨n, fr, HS, nx⟩ v)
    (k : TAny P ops fuel (listed.setIfInBounds i true) HE HS n (setD d (some v) fr) nx Q) (hd : fits d n = true := by rfl) : TAny P ops (fuel + 1) listed HE HS n fr nx Q := by
  intro G M ι a w hinv S hS
  have hiS : Inv G M ι ⟨n, fr, HS, nx⟩ a w := ⟨hinv.core.sub (List.sublist_append_right ..), hinv.fr, hinv.size, hinv.defers, hinv.M0, hinv.ι0, hinv.kept, fun p hp => hinv.own p (List.mem_append_right _ hp), hinv.past⟩
  obtain ⟨u, h1, h2⟩ := h G M ι a w hiS
  refine wpAnyH_S hS _ _ _ _ ?_
  have hw : Region.wanted ⟨d, op, ty, pos, aft, g⟩ (yielded ops a.tmps) = true := by
    rcases hg with rfl | ⟨j, b, t, rfl, ht, hx⟩
    · rfl
    · rw [wanted_of hinv (j := j) (want := b) (b := b) (t := t) rfl ht hx]; simp
  refine wpAnyH_first hi (Region.noSelect_spec hs) (fun _ _ _ h => h.elim) fuel listed a w (Region.free_spec hi hf) (by simpa using hr) (.inl ⟨hw, fun w' hw' => h1 w' (hinv.core.sameS hw')⟩) (.refl _ _) ?_
  exact k G M ι _ w (hinv.put (fits_spec hd) h2) _ fun _ h => h

/-- A guarded operation that is passed over. -/
theorem TAny.skip {fuel : Nat} {listed : Array Bool} {HE HS : List (Nat × Ob)} {o : Oper} (i : Nat) (hi : ops[i]? = some o) (hs : Region.noSelect ops = true) (hf : Region.free .any ops listed i = true)
    (hr : (Region.ready .any ops listed).contains i = true) (hn : NotGd ops fr o.guard)
    (k : TAny P ops fuel (listed.setIfInBounds i true) HE HS n (setD o.dst (some (.lit undef)) fr) nx Q) (hd : fits o.dst n = true := by rfl) : TAny P ops (fuel + 1) listed HE HS n fr nx Q := by
  intro G M ι a w hinv S hS
  refine wpAnyH_S hS _ _ _ _ ?_
  have hw : Region.wanted o (yielded ops a.tmps) = false := hn.wanted hinv rfl
  refine wpAnyH_first hi (Region.noSelect_spec hs) (fun _ _ _ h => h.elim) fuel listed a w (Region.free_spec hi hf) (by simpa using hr) (.inr ⟨hw, rfl⟩) (.refl _ _) ?_
  exact k G M ι _ w (hinv.put (fits_spec hd) (RepC.lit undef)) _ fun _ h => h

/-- That the operation i is taken now: what is shown then. -/
def TNext (P : Program) (ops : Array Oper) (fuel : Nat) (listed : Array Bool) (HE HS : List (Nat × Ob)) (n : Nat) (fr : Fr) (nx : Nat) (Q : Exit → St → Prop) (i : Nat) : Prop :=
  ∀ G M ι a w, Inv G M ι ⟨n, fr, HE ++ HS, nx⟩ a w → ∀ S : World → Prop, (∀ w', Kept (BlkOf ι HE) w w' → S w') → wpOp P ops (LiftD G Q) i (fun a' w' => S w' ∧ wpAnyH P .any ops (LiftD G Q) S fuel (listed.setIfInBounds i true) a' w') a w
theorem TAny.next {fuel : Nat} {listed : Array Bool} {HE HS : List (Nat × Ob)} (is : List Nat) (hr : Region.ready .any ops listed = is) (hne : is ≠ []) (h : ∀ i ∈ is, TNext P ops fuel listed HE HS n fr nx Q i) : TAny P ops (fuel + 1) listed HE HS n fr nx Q := by
  intro G M ι a w hinv S hS
  refine ⟨fun h' => absurd (hr ▸ h') hne, fun j hj => ?_⟩
  rw [hr] at hj
  exact h j hj G M ι a w hinv S hS
theorem TAny.next1 {fuel : Nat} {listed : Array Bool} {HE HS : List (Nat × Ob)} (i : Nat) (hr : Region.ready .any ops listed = [i]) (h : TNext P ops fuel listed HE HS n fr nx Q i) : TAny P ops (fuel + 1) listed HE HS n fr nx Q :=
  TAny.next [i] hr (by simp) fun j hj => by rw [List.mem_singleton.1 hj]; exact h
theorem TAny.next2 {fuel : Nat} {listed : Array Bool} {HE HS : List (Nat × Ob)} (i j : Nat) (hr : Region.ready .any ops listed = [i, j]) (h : TNext P ops fuel listed HE HS n fr nx Q i) (k : TNext P ops fuel listed HE HS n fr nx Q j) : TAny P ops (fuel + 1) listed HE HS n fr nx Q :=
  TAny.next [i, j] hr (by simp) fun m hm => by
    rcases List.mem_cons.1 hm with rfl | hm
    · exact h
    · rw [List.mem_singleton.1 hm]; exact k
/-- Other lists of the same objects; fewer that may change. -/
theorem TNext.lists {fuel i : Nat} {listed : Array Bool} {HE HS HE' HS' : List (Nat × Ob)} (hp : (HE ++ HS).Perm (HE' ++ HS')) (hs : ∀ p ∈ HE', p ∈ HE) (k : TNext P ops fuel listed HE' HS' n fr nx Q i) : TNext P ops fuel listed HE HS n fr nx Q i := by
  intro G M ι a w hinv S hS
  refine k G M ι a w ⟨hinv.core.perm hp, hinv.fr, hinv.size, hinv.defers, hinv.M0, hinv.ι0, hinv.kept, fun p hp' => hinv.own p (hp.mem_iff.2 hp'), hinv.past⟩ S fun w' hk => hS w' (hk.weaken fun b _ hb => BlkOf.mono (.refl _) hs hb)
theorem TNext.factE {fuel i : Nat} {listed : Array Bool} {HO HF HS : List (Nat × Ob)} {p : Prop} (hp : Fact ⟨n, fr, HO, nx⟩ p) (h : p → TNext P ops fuel listed (HO ++ HF) HS n fr nx Q i) : TNext P ops fuel listed (HO ++ HF) HS n fr nx Q i :=
  fun G M ι a w hinv => h (hp G M ι a w ⟨hinv.core.sub ((List.sublist_append_left ..).trans (List.sublist_append_left ..)), hinv.fr, hinv.size, hinv.defers, hinv.M0, hinv.ι0, hinv.kept, fun p hp => hinv.own p (List.mem_append_left _ (List.mem_append_left _ hp)), hinv.past⟩) G M ι a w hinv
/-- What is shown of the rest, whatever came first, is shown once. -/
theorem TAny.cut {p : Prop} {fuel : Nat} {listed : Array Bool} {HE HS : List (Nat × Ob)} (h : p) (k : p → TAny P ops fuel listed HE HS n fr nx Q) : TAny P ops fuel listed HE HS n fr nx Q := k h
def TAnyAt (P : Program) (ops : Array Oper) (fuel : Nat) (listed : Array Bool) (HS : List (Nat × Ob)) (n : Nat) (Q : Exit → St → Prop) (HE : List (Nat × Ob)) (fr : Fr) (nx : Nat) : Prop := TAny P ops fuel listed HE HS n fr nx Q
theorem TAny.cut2 {α : Type} {fuel : Nat} {listed : Array Bool} {HE HS : List (Nat × Ob)} (fuel2 : Nat) (l2 : Array Bool) (I : α → List (Nat × Ob) × Fr × Nat) (h : ∀ x, TAnyAt P ops fuel2 l2 HS n Q (I x).1 (I x).2.1 (I x).2.2)
    (k : (∀ x, TAnyAt P ops fuel2 l2 HS n Q (I x).1 (I x).2.1 (I x).2.2) → TAny P ops fuel listed HE HS n fr nx Q) : TAny P ops fuel listed HE HS n fr nx Q := k h
/-- To a state that is written out. -/
theorem TAny.to {fuel : Nat} {l1 l2 : Array Bool} {HE HS HE' : List (Nat × Ob)} {fr' : Fr} {nx' : Nat} (fs : List Nat) (h : TAnyAt P ops fuel l2 HS n Q HE' fr' nx') (hl : l2 = l1) (hf : keepFr fr fs = fr') (hx : nx = nx') (hp : HE.Perm HE') : TAny P ops fuel l1 HE HS n fr nx Q := by
  subst hl; subst hf; subst hx
  intro G M ι a w hinv S hS
  exact h G M ι a w ⟨hinv.core.perm (hp.append_right _), fun t v hv => hinv.fr t v (keepFr_look _ _ _ fs hv), hinv.size, hinv.defers, hinv.M0, hinv.ι0, hinv.kept, fun p hp' => hinv.own p ((hp.append_right _).mem_iff.2 hp'), hinv.past⟩ S fun w' hk => hS w' (hk.weaken fun b _ hb => BlkOf.mono (.refl _) (fun p hp' => hp.mem_iff.2 hp') hb)
/-- The operation that is taken now. HO are the objects that it uses, HF those that the rest may change beside. -/
theorem TNext.one {fuel : Nat} {listed : Array Bool} {HO HF HS : List (Nat × Ob)} {o : Oper} {R : St → Prop} (i : Nat) (hi : ops[i]? = some o) (hg : Gd ops fr o.guard) (hd : Does P o ⟨n, fr, HO, nx⟩ R)
    (k : ∀ s, R s → TAny P ops fuel (listed.setIfInBounds i true) (s.H ++ HF) HS s.n s.fr s.nx Q) : TNext P ops fuel listed (HO ++ HF) HS n fr nx Q i := by
  intro G M ι a w hinv S hS
  have hinv' : Inv G M ι ⟨n, fr, HO ++ (HF ++ HS), nx⟩ a w := by rw [← List.append_assoc]; exact hinv
  unfold wpOp
  simp only [hi]
  have hw : Region.wanted o (yielded ops a.tmps) = true := by
    rcases hg with h | ⟨j, b, t, h, ht, hx⟩
    · simp [Region.wanted, h]
    · rw [wanted_of hinv h ht hx]; simp
  rw [if_pos hw]
  refine .inl (Does.framed hinv' hd _ _ ?_)
  intro st' M' ι' a' w' hR hi' hk hown hι
  refine ⟨hS w' (hk.weaken fun b _ hb => BlkOf.mono (.refl _) (fun p hp => List.mem_append_left _ hp) hb), k st' hR G M' ι' a' w' (by rw [List.append_assoc]; exact hi') S fun w'' hk'' => hS w'' ?_⟩
  refine (hk.weaken (Y := BlkOf ι (HO ++ HF)) fun b _ hb => BlkOf.mono (.refl _) (fun p hp => List.mem_append_left _ hp) hb).trans hk'' fun b hb ⟨p, hp, x, hx, hxb⟩ => ?_
  rcases List.mem_append.1 hp with hp | hp
  · rcases hown p hp x b hx hxb with h | h
    · exact BlkOf.mono (.refl _) (fun p hp => List.mem_append_left _ hp) h
    · omega
  · obtain ⟨y, hy, _⟩ := hinv.core.ob p (List.mem_append_left _ (List.mem_append_right _ hp))
    have := hι _ _ hy
    rw [hx] at this; cases this
    exact ⟨p, List.mem_append_right _ hp, x, hy, hxb⟩

theorem TAny.one {fuel : Nat} {listed : Array Bool} {HO HF HS : List (Nat × Ob)} {o : Oper} {R : St → Prop} (i : Nat) (hi : ops[i]? = some o) (hr : Region.ready .any ops listed = [i]) (hg : Gd ops fr o.guard) (hd : Does P o ⟨n, fr, HO, nx⟩ R)
    (k : ∀ s, R s → TAny P ops fuel (listed.setIfInBounds i true) (s.H ++ HF) HS s.n s.fr s.nx Q) : TAny P ops (fuel + 1) listed (HO ++ HF) HS n fr nx Q := TAny.next1 i hr (TNext.one i hi hg hd k)

theorem TAny.eff {fuel : Nat} {listed : Array Bool} {HO HF HS H' : List (Nat × Ob)} {op : Op} {ty : TypeId} {pos : String} {aft : Array Edge} {g : Option (Nat × Bool)} {n' nx' : Nat} {fr' : Fr} (i : Nat) (hi : ops[i]? = some ⟨d, op, ty, pos, aft, g⟩) (hr : Region.ready .any ops listed = [i]) (hg : Gd ops fr g)
    (hd : Does P ⟨d, op, ty, pos, aft, g⟩ ⟨n, fr, HO, nx⟩ (· = ⟨n', fr', H', nx'⟩)) (k : TAny P ops fuel (listed.setIfInBounds i true) (H' ++ HF) HS n' fr' nx' Q) : TAny P ops (fuel + 1) listed (HO ++ HF) HS n fr nx Q :=
  TAny.one i hi hr hg hd fun _ e => by subst e; exact k
theorem TNext.eff {fuel : Nat} {listed : Array Bool} {HO HF HS H' : List (Nat × Ob)} {op : Op} {ty : TypeId} {pos : String} {aft : Array Edge} {g : Option (Nat × Bool)} {n' nx' : Nat} {fr' : Fr} (i : Nat) (hi : ops[i]? = some ⟨d, op, ty, pos, aft, g⟩) (hg : Gd ops fr g)
    (hd : Does P ⟨d, op, ty, pos, aft, g⟩ ⟨n, fr, HO, nx⟩ (· = ⟨n', fr', H', nx'⟩)) (k : TAny P ops fuel (listed.setIfInBounds i true) (H' ++ HF) HS n' fr' nx' Q) : TNext P ops fuel listed (HO ++ HF) HS n fr nx Q i :=
  TNext.one i hi hg hd fun _ e => by subst e; exact k
theorem TAny.floE {fuel : Nat} {listed : Array Bool} {HO HF HS : List (Nat × Ob)} {op : Op} {ty : TypeId} {pos : String} {aft : Array Edge} {g : Option (Nat × Bool)} {v : V} (i : Nat) (hi : ops[i]? = some ⟨d, op, ty, pos, aft, g⟩) (hr : Region.ready .any ops listed = [i]) (hg : Gd ops fr g)
    (h : Flo P ⟨d, op, ty, pos, aft, g⟩ ⟨n, fr, HO, nx⟩ v) (k : TAny P ops fuel (listed.setIfInBounds i true) (HO ++ HF) HS n (setD d (some v) fr) nx Q) (hd : fits d n = true := by rfl) : TAny P ops (fuel + 1) listed (HO ++ HF) HS n fr nx Q :=
  TAny.one i hi hr hg (h.does hd) fun _ e => by subst e; exact k
theorem TNext.floE {fuel : Nat} {listed : Array Bool} {HO HF HS : List (Nat × Ob)} {op : Op} {ty : TypeId} {pos : String} {aft : Array Edge} {g : Option (Nat × Bool)} {v : V} (i : Nat) (hi : ops[i]? = some ⟨d, op, ty, pos, aft, g⟩) (hg : Gd ops fr g)
    (h : Flo P ⟨d, op, ty, pos, aft, g⟩ ⟨n, fr, HO, nx⟩ v) (k : TAny P ops fuel (listed.setIfInBounds i true) (HO ++ HF) HS n (setD d (some v) fr) nx Q) (hd : fits d n = true := by rfl) : TNext P ops fuel listed (HO ++ HF) HS n fr nx Q i :=
  TNext.one i hi hg (h.does hd) fun _ e => by subst e; exact k
theorem TAny.call {fuel : Nat} {listed : Array Bool} {HO HF HS : List (Nat × Ob)} {ty : TypeId} {pos : String} {aft : Array Edge} {g : Option (Nat × Bool)} {f : FuncId} {xs : Array Operand} {at' : Array TypeId} {vs : List V1} {K : V → List (Nat × Ob) → Nat → Prop} (i : Nat)
    (hi : ops[i]? = some ⟨d, .call { callee := .value (.func f), args := xs, argTypes := at' }, ty, pos, aft, g⟩) (hr : Region.ready .any ops listed = [i]) (hg : Gd ops fr g) (he : Enters P f) (ha : argsOf (St.mk n fr HO nx) xs.toList = some vs) (hk : OkH P f vs HO nx K)
    (k : ∀ r H' nx', K r H' nx' → TAny P ops fuel (listed.setIfInBounds i true) (H' ++ HF) HS n (setD d (some r) fr) nx' Q) (hd : fits d n = true := by rfl) : TAny P ops (fuel + 1) listed (HO ++ HF) HS n fr nx Q :=
  TAny.one i hi hr hg (Does.call (H := HO) (H1 := []) he ha hk (by simp) hd) fun _ ⟨r, H', nx', h1, h2⟩ => by subst h2; have h3 := k r H' nx' h1; simpa [St.set] using h3
theorem TNext.call {fuel : Nat} {listed : Array Bool} {HO HF HS : List (Nat × Ob)} {ty : TypeId} {pos : String} {aft : Array Edge} {g : Option (Nat × Bool)} {f : FuncId} {xs : Array Operand} {at' : Array TypeId} {vs : List V1} {K : V → List (Nat × Ob) → Nat → Prop} (i : Nat)
    (hi : ops[i]? = some ⟨d, .call { callee := .value (.func f), args := xs, argTypes := at' }, ty, pos, aft, g⟩) (hg : Gd ops fr g) (he : Enters P f) (ha : argsOf (St.mk n fr HO nx) xs.toList = some vs) (hk : OkH P f vs HO nx K)
    (k : ∀ r H' nx', K r H' nx' → TAny P ops fuel (listed.setIfInBounds i true) (H' ++ HF) HS n (setD d (some r) fr) nx' Q) (hd : fits d n = true := by rfl) : TNext P ops fuel listed (HO ++ HF) HS n fr nx Q i :=
  TNext.one i hi hg (Does.call (H := HO) (H1 := []) he ha hk (by simp) hd) fun _ ⟨r, H', nx', h1, h2⟩ => by subst h2; have h3 := k r H' nx' h1; simpa [St.set] using h3
theorem TAny.callV {fuel : Nat} {listed : Array Bool} {HO HF HS : List (Nat × Ob)} {ty : TypeId} {pos : String} {aft : Array Edge} {g : Option (Nat × Bool)} {f : FuncId} {caps : List Nat} {x : Operand} {xs : Array Operand} {at' : Array TypeId} {vs : List V1} {K : V → List (Nat × Ob) → Nat → Prop} (i : Nat)
    (hi : ops[i]? = some ⟨d, .call { callee := .value x, args := xs, argTypes := at' }, ty, pos, aft, g⟩) (hr : Region.ready .any ops listed = [i]) (hg : Gd ops fr g) (he : Enters P f) (hx : (St.mk n fr HO nx).ev x = some (.one (.fn f caps))) (ha : argsOf (St.mk n fr HO nx) xs.toList = some vs) (hk : OkH P f (vs ++ caps.map fun o => .one (.ptr o 0 0)) HO nx K)
    (k : ∀ r H' nx', K r H' nx' → TAny P ops fuel (listed.setIfInBounds i true) (H' ++ HF) HS n (setD d (some r) fr) nx' Q) (hd : fits d n = true := by rfl) : TAny P ops (fuel + 1) listed (HO ++ HF) HS n fr nx Q :=
  TAny.one i hi hr hg (Does.callV (H := HO) (H1 := []) he hx ha hk (by simp) hd) fun _ ⟨r, H', nx', h1, h2⟩ => by subst h2; have h3 := k r H' nx' h1; simpa [St.set] using h3
theorem TNext.callV {fuel : Nat} {listed : Array Bool} {HO HF HS : List (Nat × Ob)} {ty : TypeId} {pos : String} {aft : Array Edge} {g : Option (Nat × Bool)} {f : FuncId} {caps : List Nat} {x : Operand} {xs : Array Operand} {at' : Array TypeId} {vs : List V1} {K : V → List (Nat × Ob) → Nat → Prop} (i : Nat)
    (hi : ops[i]? = some ⟨d, .call { callee := .value x, args := xs, argTypes := at' }, ty, pos, aft, g⟩) (hg : Gd ops fr g) (he : Enters P f) (hx : (St.mk n fr HO nx).ev x = some (.one (.fn f caps))) (ha : argsOf (St.mk n fr HO nx) xs.toList = some vs) (hk : OkH P f (vs ++ caps.map fun o => .one (.ptr o 0 0)) HO nx K)
    (k : ∀ r H' nx', K r H' nx' → TAny P ops fuel (listed.setIfInBounds i true) (H' ++ HF) HS n (setD d (some r) fr) nx' Q) (hd : fits d n = true := by rfl) : TNext P ops fuel listed (HO ++ HF) HS n fr nx Q i :=
  TNext.one i hi hg (Does.callV (H := HO) (H1 := []) he hx ha hk (by simp) hd) fun _ ⟨r, H', nx', h1, h2⟩ => by subst h2; have h3 := k r H' nx' h1; simpa [St.set] using h3
theorem TAny.factS {fuel : Nat} {listed : Array Bool} {HE HS : List (Nat × Ob)} {p : Prop} (hp : Fact ⟨n, fr, HS, nx⟩ p) (h : p → TAny P ops fuel listed HE HS n fr nx Q) : TAny P ops fuel listed HE HS n fr nx Q :=
  fun G M ι a w hinv => h (hp G M ι a w ⟨hinv.core.sub (List.sublist_append_right ..), hinv.fr, hinv.size, hinv.defers, hinv.M0, hinv.ι0, hinv.kept, fun p hp => hinv.own p (List.mem_append_right _ hp), hinv.past⟩) G M ι a w hinv
theorem TAny.factE {fuel : Nat} {listed : Array Bool} {HO HF HS : List (Nat × Ob)} {p : Prop} (hp : Fact ⟨n, fr, HO, nx⟩ p) (h : p → TAny P ops fuel listed (HO ++ HF) HS n fr nx Q) : TAny P ops fuel listed (HO ++ HF) HS n fr nx Q :=
  fun G M ι a w hinv => h (hp G M ι a w ⟨hinv.core.sub ((List.sublist_append_left ..).trans (List.sublist_append_left ..)), hinv.fr, hinv.size, hinv.defers, hinv.M0, hinv.ι0, hinv.kept, fun p hp => hinv.own p (List.mem_append_left _ (List.mem_append_left _ hp)), hinv.past⟩) G M ι a w hinv
theorem TAny.part {fuel : Nat} {listed : Array Bool} {HE HS : List (Nat × Ob)} {b : Bool} (h : ∀ c, b = c → TAny P ops fuel listed HE HS n fr nx Q) : TAny P ops fuel listed HE HS n fr nx Q := h b rfl
theorem sub_idx {α : Type} {l m : List α} (ks : List Nat) (h : (ks.filterMap fun k => l[k]?) = m) : ∀ p ∈ m, p ∈ l := by
  subst h
  intro p hp
  obtain ⟨k, _, hk⟩ := List.mem_filterMap.1 hp
  exact List.mem_of_getElem? hk
theorem TAny.done {fuel : Nat} {listed : Array Bool} {HE HS : List (Nat × Ob)} (hr : Region.ready .any ops listed = []) (h : Q .normal ⟨n, fr, HE ++ HS, nx⟩) : TAny P ops fuel listed HE HS n fr nx Q := by
  intro G M ι a w hinv S _
  have h1 : LiftD G Q .normal a w := Lift.mk h hinv
  cases fuel with
  | zero => exact ⟨hr, h1⟩
  | succ f => exact ⟨fun _ => h1, by rw [hr]; simp⟩
/-- Other lists of the same objects; fewer that may change. -/
theorem TAny.lists {fuel : Nat} {listed : Array Bool} {HE HS HE' HS' : List (Nat × Ob)} (hp : (HE ++ HS).Perm (HE' ++ HS')) (hs : ∀ p ∈ HE', p ∈ HE) (k : TAny P ops fuel listed HE' HS' n fr nx Q) : TAny P ops fuel listed HE HS n fr nx Q := by
  intro G M ι a w hinv S hS
  refine k G M ι a w ⟨hinv.core.perm hp, hinv.fr, hinv.size, hinv.defers, hinv.M0, hinv.ι0, hinv.kept, fun p hp' => hinv.own p (hp.mem_iff.2 hp'), hinv.past⟩ S fun w' hk => hS w' (hk.weaken fun b _ hb => BlkOf.mono (.refl _) hs hb)
theorem TAny.fact {fuel : Nat} {listed : Array Bool} {HE HS : List (Nat × Ob)} {p : Prop} (hp : Fact ⟨n, fr, HE ++ HS, nx⟩ p) (h : p → TAny P ops fuel listed HE HS n fr nx Q) : TAny P ops fuel listed HE HS n fr nx Q := fun G M ι a w hi => h (hp G M ι a w hi) G M ι a w hi
end
end Go.Fl
