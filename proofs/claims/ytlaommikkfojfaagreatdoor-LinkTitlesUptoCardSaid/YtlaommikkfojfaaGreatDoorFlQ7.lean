/- The kids of the blocks: both checks find the same first error. Plain Lean. -/
import Derived.Test.YtlaommikkfojfaaGreatDoorFlQ6
namespace Go.Fl
set_option maxRecDepth 100000
set_option linter.unusedSimpArgs false
def QK (base : List Block) : Prop := ∀ b ∈ base, ∀ k ∈ b.kids, qI k
def parOf (base : List Block) (i : Nat) : Int := match base[i]? with
  | some b => b.parent
  | none => 0
def kidErr (base : List Block) (x : Block) (pre : List Int) (k : Int) : Nat :=
  match posOf base k with
  | none => 7
  | some i => cond (decide (parOf base i ≠ x.id) || decide (k = 0)) 1 (cond (decide (k ∈ pre)) 6 0)
def kidErrs (base : List Block) (x : Block) : List Int → List Int → Option Nat
  | _, [] => none
  | pre, k :: rest => cond (decide (kidErr base x pre k ≠ 0)) (some (kidErr base x pre k)) (kidErrs base x (pre ++ [k]) rest)
theorem kidErrs_0 {base : List Block} {x : Block} {pre rest : List Int} {k : Int} (h : kidErr base x pre k = 0) : kidErrs base x pre (k :: rest) = kidErrs base x (pre ++ [k]) rest := by
  rw [kidErrs, decide_eq_false (by omega)]; rfl
theorem kidErrs_e {base : List Block} {x : Block} {pre rest : List Int} {k : Int} {e : Nat} (h : kidErr base x pre k = e) (he : e ≠ 0) : kidErrs base x pre (k :: rest) = some e := by
  rw [kidErrs, decide_eq_true (by omega), h]; rfl
theorem kidErr_7 {base : List Block} {x : Block} {pre : List Int} {k : Int} (h : posOf base k = none) : kidErr base x pre k = 7 := by unfold kidErr; rw [h]
theorem kidErr_i {base : List Block} {x : Block} {pre : List Int} {k : Int} {i : Nat} (h : posOf base k = some i) : kidErr base x pre k = cond (decide (parOf base i ≠ x.id) || decide (k = 0)) 1 (cond (decide (k ∈ pre)) 6 0) := by unfold kidErr; rw [h]
def asSumN : Option Nat → Sum Unit Nat
  | none => .inl ()
  | some e => .inr e
theorem kids_tree {base : List Block} (h : Ord base) (hs : SmB base) {x : Block} : ∀ (rest pre : List Int) (seen : List (Int × Bool)), (∀ k ∈ rest, qI k) → (∀ k, (mget seen k).getD false = decide (k ∈ pre)) → seen.length ≤ pre.length → pre.length + rest.length ≤ 1048576 →
    f_tree_checkKids_l2 base x rest seen = some (asSumN (kidErrs base x pre rest))
  | [], _, _, _, _, _, _ => rfl
  | k :: rest, pre, seen, hq, hseen, hl, hlen => by
    simp only [List.length_cons] at hlen
    have ih := kids_tree h hs (x := x) rest (pre ++ [k]) (mset seen k true) (fun k' hk' => hq k' (List.mem_cons_of_mem _ hk')) (fun k' => by
      rw [mget_mset]
      by_cases he : k = k'
      · subst he; simp
      · rw [if_neg he, hseen k']
        have : (k' ∈ pre ++ [k]) ↔ k' ∈ pre := by simp [Ne.symm he]
        by_cases hm : k' ∈ pre
        · rw [decide_eq_true hm, decide_eq_true (this.2 hm)]
        · rw [decide_eq_false hm, decide_eq_false (fun h' => hm (this.1 h'))]) (by
      have h1 := keys_mset seen k true
      have h2 := keys_length (mset seen k true)
      have h3 := keys_length seen
      rw [h1] at h2
      split at h2
      · simp; omega
      · simp at h2 ⊢; omega) (by simp; omega)
    unfold f_tree_checkKids_l2
    rw [index_tree h hs (hq k List.mem_cons_self), Option.bind_some]
    unfold posI
    cases hp : posOf base k with
    | none => rw [kidErrs_e (kidErr_7 hp) (by omega)]; rfl
    | some i =>
      obtain ⟨b, hb, hbi⟩ := posOf_some hp
      have hke := kidErr_i (x := x) (pre := pre) hp
      dsimp only
      rw [decide_eq_false (show ¬ ((i : Int) < 0) by omega), cond_false, atL_nat, hb, Option.bind_some]
      have hpar : parOf base i = b.parent := by simp [parOf, hb]
      rw [hpar] at hke
      by_cases h1 : b.parent = x.id
      · rw [decide_eq_false (show ¬ (b.parent ≠ x.id) from fun hh => hh h1), Bool.false_or] at hke
        rw [decide_eq_false (show ¬ (b.parent ≠ x.id) from fun hh => hh h1), cond_false, Option.bind_some]
        by_cases h2 : k = 0
        · rw [decide_eq_true h2, cond_true] at hke
          rw [decide_eq_true h2, kidErrs_e hke (by omega)]; rfl
        · rw [decide_eq_false h2, cond_false] at hke
          rw [decide_eq_false h2, cond_false, hseen k]
          by_cases h3 : k ∈ pre
          · rw [decide_eq_true h3, cond_true] at hke
            rw [decide_eq_true h3, kidErrs_e hke (by omega)]; rfl
          · rw [decide_eq_false h3, cond_false] at hke
            rw [decide_eq_false h3, cond_false, ckN_ok (by omega), ih, kidErrs_0 hke]
      · rw [decide_eq_true (show b.parent ≠ x.id from h1), Bool.true_or, cond_true] at hke
        rw [decide_eq_true (show b.parent ≠ x.id from h1), kidErrs_e hke (by omega)]; rfl
theorem mem_ref (k : Int) : ∀ l : List Int, f_florref1_BaseError_l4 k l = some (if k ∈ l then .inr () else .inl ())
  | [] => by simp [f_florref1_BaseError_l4]
  | a :: l => by
    unfold f_florref1_BaseError_l4
    rw [condD, mem_ref k l]
    by_cases h : a = k
    · subst h; simp
    · rw [if_neg h]
      have : (k ∈ a :: l) ↔ k ∈ l := by simp [Ne.symm h]
      by_cases h2 : k ∈ l
      · rw [if_pos h2, if_pos (this.2 h2)]
      · rw [if_neg h2, if_neg fun h3 => h2 (this.1 h3)]
theorem kids_ref {base : List Block} (h : Ord base) {x : Block} : ∀ (rest : List Int) (v : Nat), x.kids.drop v = rest → f_florref1_BaseError_l3 base x rest v = some (asSumN (kidErrs base x (x.kids.take v) rest))
  | [], _, _ => rfl
  | k :: rest, v, hd => by
    have hv : v < x.kids.length := by
      rcases Nat.lt_or_ge v x.kids.length with h' | h'
      · exact h'
      · rw [List.drop_eq_nil_of_le h'] at hd; cases hd
    have hk : x.kids[v]? = some k := by
      have := congrArg (·[0]?) hd
      simpa using this
    have hn : x.kids.drop (v + 1) = rest := by rw [← List.drop_drop, hd]; rfl
    have ht : x.kids.take (v + 1) = x.kids.take v ++ [k] := by
      rw [List.take_add_one, hk]; rfl
    have ih := kids_ref h rest (v + 1) hn
    rw [ht] at ih
    unfold f_florref1_BaseError_l3
    rw [index_ref, Option.bind_some]
    unfold posI
    cases hp : posOf base k with
    | none => rw [kidErrs_e (kidErr_7 hp) (by omega)]; rfl
    | some i =>
      obtain ⟨b, hb, hbi⟩ := posOf_some hp
      obtain ⟨z, hz, hz0⟩ := h.z
      have hke := kidErr_i (x := x) (pre := x.kids.take v) hp
      dsimp only
      rw [decide_eq_false (show ¬ ((i : Int) < 0) by omega), cond_false, atL_nat, hb, Option.bind_some]
      have hpar : parOf base i = b.parent := by simp [parOf, hb]
      have hzero : decide ((i : Int) = 0) = decide (k = 0) := by
        by_cases hi : i = 0
        · subst hi
          rw [hz] at hb; cases hb
          rw [decide_eq_true (by omega), decide_eq_true (by omega)]
        · have : k ≠ 0 := fun hk0 => hi (h.inj hb hz (by omega))
          rw [decide_eq_false (by omega), decide_eq_false this]
      rw [hpar] at hke
      rw [hzero]
      by_cases h1 : b.parent = x.id
      · rw [decide_eq_false (show ¬ (b.parent ≠ x.id) from fun hh => hh h1), Bool.false_or] at hke
        rw [decide_eq_false (show ¬ (b.parent ≠ x.id) from fun hh => hh h1), cond_false, Option.bind_some]
        by_cases h2 : k = 0
        · rw [decide_eq_true h2, cond_true] at hke
          rw [decide_eq_true h2, kidErrs_e hke (by omega)]; rfl
        · rw [decide_eq_false h2, cond_false] at hke
          rw [decide_eq_false h2, cond_false, cutL_ok (by omega) (by omega) (by omega), Option.bind_some, mem_ref, Option.bind_some, ih]
          rw [show (0 : Int).toNat = 0 from rfl, List.drop_zero, Nat.sub_zero, Int.toNat_natCast]
          by_cases h3 : k ∈ x.kids.take v
          · rw [decide_eq_true h3, cond_true] at hke
            rw [if_pos h3, kidErrs_e hke (by omega)]; rfl
          · rw [decide_eq_false h3, cond_false] at hke
            rw [if_neg h3, kidErrs_0 hke]; rfl
      · rw [decide_eq_true (show b.parent ≠ x.id from h1), Bool.true_or, cond_true] at hke
        rw [decide_eq_true (show b.parent ≠ x.id from h1), kidErrs_e hke (by omega)]; rfl
def allKids (base : List Block) : List Block → Option Nat
  | [] => none
  | x :: r => match kidErrs base x [] x.kids with
    | some e => some e
    | none => allKids base r
theorem allKids_tree {base : List Block} (h : Ord base) (hs : SmB base) (hq : QK base) : ∀ l : List Block, (∀ x ∈ l, x ∈ base) → f_tree_checkKids_l1 base l = some (asSumN (allKids base l))
  | [], _ => rfl
  | x :: r, hm => by
    have ih := allKids_tree h hs hq r fun y hy => hm y (List.mem_cons_of_mem _ hy)
    have hx := hm x List.mem_cons_self
    unfold f_tree_checkKids_l1
    rw [kids_tree h hs x.kids [] [] (hq x hx) (fun k => by simp [mget]) (Nat.le_refl _) (by have := h.kids x hx; simp; omega), Option.bind_some, allKids]
    cases kidErrs base x [] x.kids with
    | none => exact ih
    | some e => rfl
theorem allKids_ref {base : List Block} (h : Ord base) : ∀ l : List Block, f_florref1_BaseError_l2 base l = some (asSumN (allKids base l))
  | [] => rfl
  | x :: r => by
    have ih := allKids_ref h r
    unfold f_florref1_BaseError_l2
    rw [kids_ref h x.kids 0 rfl, Option.bind_some, allKids, List.take_zero]
    cases kidErrs base x [] x.kids with
    | none => exact ih
    | some e => rfl
/-- What a base that has passed the second checks is. -/
structure Tr (base : List Block) : Prop extends Ord base where
  kid : ∀ x ∈ base, ∀ k ∈ x.kids, k ≠ 0 ∧ ∃ (i : Nat) (b : Block), base[i]? = some b ∧ b.id = k ∧ b.parent = x.id
  nd : ∀ x ∈ base, x.kids.Nodup
theorem kidErrs_none {base : List Block} {x : Block} : ∀ (rest pre : List Int), kidErrs base x pre rest = none → rest.Nodup ∧ (∀ k ∈ rest, k ∉ pre ∧ k ≠ 0 ∧ ∃ (i : Nat) (b : Block), base[i]? = some b ∧ b.id = k ∧ b.parent = x.id)
  | [], _, _ => ⟨.nil, fun _ h => by cases h⟩
  | k :: rest, pre, h => by
    rw [kidErrs] at h
    by_cases h0 : kidErr base x pre k ≠ 0
    · rw [decide_eq_true h0] at h; cases h
    · rw [decide_eq_false h0, cond_false] at h
      obtain ⟨h1, h2⟩ := kidErrs_none rest (pre ++ [k]) h
      have h0' : kidErr base x pre k = 0 := by omega
      unfold kidErr at h0'
      have hk : k ∉ pre ∧ k ≠ 0 ∧ ∃ (i : Nat) (b : Block), base[i]? = some b ∧ b.id = k ∧ b.parent = x.id := by
        cases hp : posOf base k with
        | none => rw [hp] at h0'; cases h0'
        | some i =>
          rw [hp] at h0'
          dsimp only at h0'
          obtain ⟨b, hb, hbi⟩ := posOf_some hp
          have hpar : parOf base i = b.parent := by simp [parOf, hb]
          rw [hpar] at h0'
          by_cases e1 : b.parent = x.id
          · by_cases e2 : k = 0
            · simp [e1, e2] at h0'
            · by_cases e3 : k ∈ pre
              · simp [e1, e2, e3] at h0'
              · exact ⟨e3, e2, i, b, hb, hbi, e1⟩
          · simp [e1] at h0'
      refine ⟨List.nodup_cons.2 ⟨fun hm => (h2 k hm).1 (by simp), h1⟩, fun k' hk' => ?_⟩
      rcases List.mem_cons.1 hk' with rfl | hk'
      · exact hk
      · obtain ⟨a1, a2⟩ := h2 k' hk'
        exact ⟨fun hm => a1 (by simp [hm]), a2⟩
theorem Tr.of {base : List Block} (h : Ord base) (hk : allKids base base = none) : Tr base := by
  have key : ∀ l : List Block, allKids base l = none → ∀ x ∈ l, kidErrs base x [] x.kids = none := by
    intro l
    induction l with
    | nil => intro _ x hx; cases hx
    | cons y r ih =>
      intro hl x hx
      rw [allKids] at hl
      cases he : kidErrs base y [] y.kids with
      | some e => rw [he] at hl; cases hl
      | none =>
        rw [he] at hl
        rcases List.mem_cons.1 hx with rfl | hx
        · exact he
        · exact ih hl x hx
  exact { h with
    kid := fun x hx k hk' => ((kidErrs_none _ _ (key base hk x hx)).2 k hk').2
    nd := fun x hx => (kidErrs_none _ _ (key base hk x hx)).1 }
theorem Ord.of {base : List Block} (hne : base ≠ []) (he : errs base base 0 = none) : Ord base := by
  have key : ∀ (rest : List Block) (i : Nat), base.drop i = rest → errs base rest i = none → ∀ (j : Nat) (b : Block), i ≤ j → base[j]? = some b → bErr base j b = 0 := by
    intro rest
    induction rest with
    | nil =>
      intro i hd _ j b hij hb
      have := (List.getElem?_eq_some_iff.1 hb).1
      have := List.drop_eq_nil_iff.1 hd
      omega
    | cons x rest ih =>
      intro i hd he j b hij hb
      have hx : base[i]? = some x := by
        have := congrArg (·[0]?) hd
        simpa using this
      have hn : base.drop (i + 1) = rest := by rw [← List.drop_drop, hd]; rfl
      rw [errs] at he
      by_cases h0 : bErr base i x ≠ 0
      · rw [decide_eq_true h0] at he; cases he
      · rw [decide_eq_false h0, cond_false] at he
        by_cases hji : j = i
        · subst hji; rw [hx] at hb; cases hb; omega
        · exact ih (i + 1) hn he j b (by omega) hb
  have hb := fun (j : Nat) (b : Block) (h : base[j]? = some b) => key base 0 rfl he j b (Nat.zero_le _) h
  have parts : ∀ (j : Nat) (b : Block), base[j]? = some b → c2 j b = false ∧ c5 base j b = false ∧ b.kids.length ≤ 500 ∧ pErr b.props = 0 := fun j b h => by
    have h0 := hb j b h
    unfold bErr at h0
    cases h2 : c2 j b with
    | true => rw [h2] at h0; cases h0
    | false =>
      cases h5 : c5 base j b with
      | true => rw [h2, h5] at h0; cases h0
      | false =>
        cases h1 : c1 j b with
        | true => rw [h2, h5, h1] at h0; cases h0
        | false =>
          rw [h2, h5, h1, cond_false, cond_false, cond_false] at h0
          by_cases ht : tErr b.text ≠ 0
          · rw [decide_eq_true ht, cond_true] at h0; exact absurd h0 ht
          · rw [decide_eq_false ht, cond_false] at h0
            by_cases hk : 500 < b.kids.length
            · rw [decide_eq_true hk] at h0; cases h0
            · rw [decide_eq_false hk, cond_false] at h0
              exact ⟨rfl, rfl, by omega, h0⟩
  have hz : ∃ b : Block, base[0]? = some b ∧ b.id = 0 := by
    cases base with
    | nil => exact absurd rfl hne
    | cons b r =>
      refine ⟨b, rfl, ?_⟩
      have := (parts 0 b rfl).1
      simpa [c2] using this
  have hstep : ∀ (j : Nat) (a b : Block), base[j]? = some a → base[j + 1]? = some b → a.id < b.id := fun j a b ha hb' => by
    have := (parts (j + 1) b hb').2.1
    simp [c5, ha] at this
    omega
  refine ⟨hz, ?_, ?_, ?_, ?_⟩
  · intro i j a b hij ha hb'
    obtain ⟨d, rfl⟩ : ∃ d, j = i + 1 + d := ⟨j - (i + 1), by omega⟩
    clear hij
    induction d generalizing b with
    | zero => exact hstep i a b ha hb'
    | succ d ih =>
      have hlt := (List.getElem?_eq_some_iff.1 hb').1
      have hc := List.getElem?_eq_getElem (l := base) (i := i + 1 + d) (by omega)
      have := ih _ hc
      have := hstep (i + 1 + d) _ b hc hb'
      omega
  · intro i b hb'
    cases i with
    | zero =>
      obtain ⟨z, h1, h2⟩ := hz
      rw [h1] at hb'; cases hb'; omega
    | succ i =>
      have := (parts (i + 1) b hb').1
      simp [c2] at this
      omega
  · intro b hm
    obtain ⟨j, hj⟩ := List.getElem?_of_mem hm
    exact (parts j b hj).2.2.1
  · intro b hm
    obtain ⟨j, hj⟩ := List.getElem?_of_mem hm
    exact (parts j b hj).2.2.2
end Go.Fl
