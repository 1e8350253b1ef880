/- The blocks, one by one: both checks find the same first error. Plain Lean. -/
import Derived.Test.YtlaommikkfojfaaGreatDoorFlQ4
namespace Go.Fl
set_option maxRecDepth 100000
set_option linter.unusedSimpArgs false
theorem below_same (s : Bytes) : ∀ fuel v, f_florref1_below_l1 s fuel v = f_text_hasControl_l1 s fuel v
  | 0, _ => rfl
  | n + 1, v => by
    unfold f_florref1_below_l1 f_text_hasControl_l1
    rw [below_same s n (v + 1)]
theorem textError_same (s : Bytes) : f_florref1_TextError s = f_text_Check s := by
  unfold f_florref1_TextError f_text_Check f_florref1_below f_text_hasControl
  rw [below_same]
theorem text_tot (s : Bytes) (hs : s.length ≤ 1048576) : Tot (f_text_Check s) := by
  have k1 : ∀ k fuel v, s.length - v ≤ k → k < fuel → Tot (f_text_hasControl_l1 s fuel v) := by
    intro k
    induction k with
    | zero =>
      intro fuel v hk hf
      obtain ⟨f, rfl⟩ : ∃ f, fuel = f + 1 := ⟨fuel - 1, by omega⟩
      unfold f_text_hasControl_l1
      exact Tot.cond (fun h => by have := of_decide_eq_true h; omega) fun _ => .some _
    | succ k ih =>
      intro fuel v hk hf
      obtain ⟨f, rfl⟩ : ∃ f, fuel = f + 1 := ⟨fuel - 1, by omega⟩
      unfold f_text_hasControl_l1
      refine Tot.cond (fun h => ?_) fun _ => .some _
      have := of_decide_eq_true h
      refine Tot.bind (Tot.bind (Tot.get (by omega)) fun c _ => Tot.cond (fun _ => .some _) fun _ => Tot.bind (Tot.get (by omega)) fun _ _ => .some _) fun b _ => Tot.cond (fun _ => .some _) fun _ => Tot.ckI (by omega) (by omega) (ih f _ (by omega) (by omega))
  have h1 := k1 s.length FUEL 0 (by omega) (FUEL_gt (by omega))
  unfold f_text_Check f_text_hasControl
  exact Tot.cond (fun _ => .some _) fun _ => Tot.bind (Tot.bind h1 fun _ _ => Tot.sum (fun _ _ => .some _) fun _ _ => .some _) fun _ _ => Tot.cond (fun _ => .some _) fun _ => .some _
def tErr (s : Bytes) : Int := (f_text_Check s).getD 0
def pErr (l : List PProp) : Int := (f_prop_CheckProps l).getD 0
theorem Tot.getD {x : Option Int} (h : Tot x) : x = Option.some (x.getD 0) := by
  obtain ⟨r, hr⟩ := h
  rw [hr]; rfl
def c2 (i : Nat) (x : Block) : Bool := cond (decide (i = 0)) (decide (x.id ≠ 0)) (decide (x.id < 1) || decide (1000000 < x.id))
def c5 (base : List Block) (i : Nat) (x : Block) : Bool := cond (decide (i = 0)) false (match base[i - 1]? with | some p => decide (x.id ≤ p.id) | none => false)
def c1 (i : Nat) (x : Block) : Bool := cond (decide (i = 0)) (decide (x.text ≠ []) || (decide (0 < x.props.length) || decide (x.parent ≠ 0))) false
def bErr (base : List Block) (i : Nat) (x : Block) : Int :=
  cond (c2 i x) 2 (cond (c5 base i x) 5 (cond (c1 i x) 1 (cond (decide (tErr x.text ≠ 0)) (tErr x.text) (cond (decide (500 < x.kids.length)) 4 (pErr x.props)))))
/-- Measures of a base. -/
def SmB (base : List Block) : Prop := mL mB base ≤ 1048576
theorem mB_one (b : Block) : 1 ≤ mB b := by simp [mB]
theorem SmB.len {base : List Block} (h : SmB base) : base.length < 1048576 := by have := mL_length mB_one base; unfold SmB at h; omega
theorem SmB.mem {base : List Block} (h : SmB base) {x : Block} (hx : x ∈ base) : mB x < 1048576 := by have := mL_mem (m := mB) hx; unfold SmB at h; omega
theorem SmB.text {base : List Block} (h : SmB base) {x : Block} (hx : x ∈ base) : x.text.length < 1048576 := by have := h.mem hx; simp [mB, mS] at this; omega
theorem SmB.props {base : List Block} (h : SmB base) {x : Block} (hx : x ∈ base) : mL mP x.props ≤ 1048576 := by have := h.mem hx; simp [mB] at this; omega
theorem SmB.kids {base : List Block} (h : SmB base) {x : Block} (hx : x ∈ base) : x.kids.length < 1048576 := by
  have := h.mem hx
  have h2 := mL_length (m := fun _ : Int => 1) (fun _ => Nat.le_refl _) x.kids
  simp only [mB] at this; omega
theorem inRange_eq (a b c : Int) : f_florref1_inRange a b c = some (decide (b ≤ a) && decide (a ≤ c)) := by
  unfold f_florref1_inRange
  by_cases h : b ≤ a <;> simp [h]
theorem checkBlock_eq {base : List Block} (hs : SmB base) {i : Nat} {x : Block} (hx : base[i]? = some x) : f_tree_checkBlock base (i : Int) = some (bErr base i x) := by
  have hm : x ∈ base := List.mem_of_getElem? hx
  have hlen := hs.len
  have hi : i < base.length := (List.getElem?_eq_some_iff.1 hx).1
  have ht := (text_tot x.text (by have := hs.text hm; omega)).getD
  have hp := (checkProps_tot x.props (hs.props hm)).getD
  unfold f_tree_checkBlock
  rw [atL_nat, hx, Option.bind_some]
  have p2 : (cond (decide ((i : Int) = (0 : Int))) (cond (decide (x.id ≠ (0 : Int))) (some true) (cond (decide ((0 : Int) < (i : Int))) (cond (decide (x.id < (1 : Int))) (some true) (some (decide ((1000000 : Int) < x.id)))) (some false))) (cond (decide ((0 : Int) < (i : Int))) (cond (decide (x.id < (1 : Int))) (some true) (some (decide ((1000000 : Int) < x.id)))) (some false)) : Option Bool) = some (c2 i x) := by
    unfold c2
    by_cases h0 : i = 0
    · subst h0
      by_cases h1 : x.id = 0 <;> simp [h1]
    · have h2 : (0 : Int) < (i : Int) := by omega
      have h3 : ¬ ((i : Int) = 0) := by omega
      rw [decide_eq_true h2, decide_eq_false h0, decide_eq_false h3, cond_false, cond_true, cond_false]
      by_cases h1 : x.id < 1 <;> simp [h1]
  rw [p2, Option.bind_some]
  have p5 : (cond (decide ((0 : Int) < (i : Int))) (ckI ((i : Int) - 1) ((atL base ((i : Int) - 1)).bind fun x14 => (some (decide (x.id ≤ x14.id))))) (some false) : Option Bool) = some (c5 base i x) := by
    unfold c5
    by_cases h0 : i = 0
    · subst h0; rfl
    · rw [decide_eq_true (show (0 : Int) < (i : Int) by omega), cond_true, ckI_ok (by omega) (by omega), atL_ok (by omega), show ((i : Int) - 1).toNat = i - 1 by omega, List.getElem?_eq_getElem (show i - 1 < base.length by omega), decide_eq_false h0]
      rfl
  have p1 : (cond (decide ((i : Int) = (0 : Int))) (cond (decide (x.text ≠ ([] : Bytes))) (some true) (cond (decide ((0 : Int) < (x.props.length : Int))) (some true) (some (decide (x.parent ≠ (0 : Int)))))) (some false) : Option Bool) = some (c1 i x) := by
    unfold c1
    by_cases h0 : i = 0
    · subst h0
      by_cases h1 : x.text = [] <;> by_cases h2 : 0 < x.props.length <;> simp [h1, h2]
    · have h3 : ¬ ((i : Int) = 0) := by omega
      simp [h0]
  unfold bErr
  cases hc2 : c2 i x with
  | true => rfl
  | false =>
    rw [cond_false, cond_false, p5, Option.bind_some]
    cases hc5 : c5 base i x with
    | true => rfl
    | false =>
      rw [cond_false, cond_false, p1, Option.bind_some]
      cases hc1 : c1 i x with
      | true => rfl
      | false =>
        rw [cond_false, cond_false, ht, Option.bind_some, hp]
        have : (f_text_Check x.text).getD 0 = tErr x.text := rfl
        have h2 : (f_prop_CheckProps x.props).getD 0 = pErr x.props := rfl
        rw [this, h2]
        by_cases h : tErr x.text ≠ 0
        · rw [decide_eq_true h]; rfl
        · rw [decide_eq_false h, cond_false, cond_false]
          by_cases h' : 500 < x.kids.length
          · rw [decide_eq_true h', decide_eq_true (by omega)]; rfl
          · rw [decide_eq_false h', decide_eq_false (by omega)]; rfl
def errs (base : List Block) : List Block → Nat → Option Int
  | [], _ => none
  | x :: r, i => cond (decide (bErr base i x ≠ 0)) (some (bErr base i x)) (errs base r (i + 1))
def asSum : Option Int → Sum Unit Int
  | none => .inl ()
  | some e => .inr e
theorem check_l1 {base : List Block} (hs : SmB base) : ∀ (rest : List Block) (fuel i : Nat), base.drop i = rest → rest.length < fuel → f_tree_Check_l1 base fuel i = some (asSum (errs base rest i))
  | [], fuel, i, h, hf => by
    obtain ⟨f, rfl⟩ : ∃ f, fuel = f + 1 := ⟨fuel - 1, by simp at hf; omega⟩
    have := List.drop_eq_nil_iff.1 h
    unfold f_tree_Check_l1
    rw [decide_eq_false (by omega)]; rfl
  | x :: rest, fuel, i, h, hf => by
    obtain ⟨f, rfl⟩ : ∃ f, fuel = f + 1 := ⟨fuel - 1, by simp at hf; omega⟩
    have hi : i < base.length := by
      rcases Nat.lt_or_ge i base.length with h' | h'
      · exact h'
      · rw [List.drop_eq_nil_of_le h'] at h; cases h
    have hx : base[i]? = some x := by
      have := congrArg (·[0]?) h
      simpa using this
    have hn : base.drop (i + 1) = rest := by rw [← List.drop_drop, h]; rfl
    have hlen := hs.len
    unfold f_tree_Check_l1
    rw [decide_eq_true (by omega), cond_true, checkBlock_eq hs hx, Option.bind_some, ckI_ok (by omega) (by omega), check_l1 hs rest f (i + 1) hn (by simp at hf; omega)]
    rw [errs]
    by_cases hb : bErr base i x ≠ 0
    · rw [decide_eq_true hb]; rfl
    · rw [decide_eq_false hb]; rfl
theorem base_l1 {base : List Block} (hs : SmB base) : ∀ (rest : List Block) (i : Nat), base.drop i = rest → f_florref1_BaseError_l1 base rest i = some (asSum (errs base rest i))
  | [], _, _ => rfl
  | x :: rest, i, h => by
    have hi : i < base.length := by
      rcases Nat.lt_or_ge i base.length with h' | h'
      · exact h'
      · rw [List.drop_eq_nil_of_le h'] at h; cases h
    have hx : base[i]? = some x := by
      have := congrArg (·[0]?) h
      simpa using this
    have hm : x ∈ base := List.mem_of_getElem? hx
    have hn : base.drop (i + 1) = rest := by rw [← List.drop_drop, h]; rfl
    have hlen := hs.len
    have ht := (text_tot x.text (by have := hs.text hm; omega)).getD
    have hp := (checkProps_tot x.props (hs.props hm)).getD
    have ih := base_l1 hs rest (i + 1) hn
    unfold f_florref1_BaseError_l1
    rw [inRange_eq, Option.bind_some, textError_same, ih]
    have p2 : (cond (decide ((i : Int) = (0 : Int))) (cond (decide (x.id ≠ (0 : Int))) (some true) (cond (decide ((0 : Int) < (i : Int))) (some (!(decide (1 ≤ x.id) && decide (x.id ≤ 1000000)))) (some false))) (cond (decide ((0 : Int) < (i : Int))) (some (!(decide (1 ≤ x.id) && decide (x.id ≤ 1000000)))) (some false)) : Option Bool) = some (c2 i x) := by
      unfold c2
      have hb : (!(decide (1 ≤ x.id) && decide (x.id ≤ 1000000))) = (decide (x.id < 1) || decide (1000000 < x.id)) := by
        by_cases h1 : x.id < 1
        · rw [decide_eq_true h1, decide_eq_false (by omega)]; rfl
        · rw [decide_eq_false h1, decide_eq_true (show 1 ≤ x.id by omega)]
          by_cases h2 : 1000000 < x.id
          · rw [decide_eq_true h2, decide_eq_false (by omega)]; rfl
          · rw [decide_eq_false h2, decide_eq_true (by omega)]; rfl
      rw [hb]
      by_cases h0 : i = 0
      · subst h0
        by_cases h1 : x.id = 0 <;> simp [h1]
      · have h2 : (0 : Int) < (i : Int) := by omega
        rw [decide_eq_true h2, decide_eq_false h0, decide_eq_false (show ¬ ((i : Int) = 0) by omega)]; rfl
    have p5 : (cond (decide ((0 : Int) < (i : Int))) (ckI ((i : Int) - 1) ((atL base ((i : Int) - 1)).bind fun x14 => (some (decide (x.id ≤ x14.id))))) (some false) : Option Bool) = some (c5 base i x) := by
      unfold c5
      by_cases h0 : i = 0
      · subst h0; rfl
      · rw [decide_eq_true (show (0 : Int) < (i : Int) by omega), cond_true, ckI_ok (by omega) (by omega), atL_ok (by omega), show ((i : Int) - 1).toNat = i - 1 by omega, List.getElem?_eq_getElem (show i - 1 < base.length by omega), decide_eq_false h0]
        rfl
    have p1 : (cond (decide ((i : Int) = (0 : Int))) (cond (decide (x.text ≠ ([] : Bytes))) (some true) (cond (decide ((0 : Int) < (x.props.length : Int))) (some true) (some (decide (x.parent ≠ (0 : Int)))))) (some false) : Option Bool) = some (c1 i x) := by
      unfold c1
      by_cases h0 : i = 0
      · subst h0
        by_cases h1 : x.text = [] <;> by_cases h2 : 0 < x.props.length <;> simp [h1, h2]
      · have h3 : ¬ ((i : Int) = 0) := by omega
        simp [h0]
    rw [p2, Option.bind_some, p5, errs]
    unfold bErr
    cases hc2 : c2 i x with
    | true => rfl
    | false =>
      rw [cond_false, cond_false, Option.bind_some]
      cases hc5 : c5 base i x with
      | true => rfl
      | false =>
        rw [cond_false, cond_false, p1, Option.bind_some]
        cases hc1 : c1 i x with
        | true => rfl
        | false =>
          rw [cond_false, cond_false, ht, Option.bind_some, hp, Option.bind_some]
          have h1 : (f_text_Check x.text).getD 0 = tErr x.text := rfl
          have h2 : (f_prop_CheckProps x.props).getD 0 = pErr x.props := rfl
          rw [h1, h2]
          by_cases h : tErr x.text ≠ 0
          · rw [decide_eq_true h, cond_true, cond_true, decide_eq_true h]; rfl
          · rw [decide_eq_false h, cond_false, cond_false]
            by_cases h' : 500 < x.kids.length
            · rw [decide_eq_true h', decide_eq_true (by omega)]; rfl
            · rw [decide_eq_false h', decide_eq_false (by omega), cond_false, cond_false]
              by_cases h3 : pErr x.props ≠ 0
              · rw [decide_eq_true h3]; rfl
              · rw [decide_eq_false h3]; rfl
end Go.Fl
