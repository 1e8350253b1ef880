/- What good properties are; the aliases of a page. Plain Lean. -/
import Derived.Test.YtlaommikkfojfaaGreatDoorFlQ9
namespace Go.Fl
set_option maxRecDepth 100000
set_option linter.unusedSimpArgs false
theorem less_total : ∀ x y : Bytes, Op.bytesLess x y = true ∨ x = y ∨ Op.bytesLess y x = true
  | [], [] => .inr (.inl rfl)
  | [], _ :: _ => .inl rfl
  | _ :: _, [] => .inr (.inr rfl)
  | a :: x, b :: y => by
    simp only [Op.bytesLess]
    have ha := a.toNat_lt
    rcases Nat.lt_trichotomy a.toNat b.toNat with h | h | h
    · left
      have : a < b := by exact h
      simp [this]
    · have hab : a = b := UInt8.toNat_inj.1 h
      subst hab
      rcases less_total x y with h1 | h1 | h1
      · left; simp [h1]
      · right; left; rw [h1]
      · right; right; simp [h1]
    · right; right
      have : b < a := by exact h
      simp [this]
theorem less_irrefl : ∀ x : Bytes, Op.bytesLess x x = false
  | [] => rfl
  | a :: x => by
    have := less_irrefl x
    have h : ¬ (a < a) := fun h => Nat.lt_irrefl _ (show a.toNat < a.toNat from h)
    simp [Op.bytesLess, this, h]
theorem less_trans : ∀ x y z : Bytes, Op.bytesLess x y = true → Op.bytesLess y z = true → Op.bytesLess x z = true
  | _, _, [], _, h => by simp [Op.bytesLess] at h
  | _, [], _ :: _, h, _ => by simp [Op.bytesLess] at h
  | [], _ :: _, _ :: _, _, _ => rfl
  | a :: x, b :: y, c :: z, h1, h2 => by
    simp only [Op.bytesLess, Bool.or_eq_true, Bool.and_eq_true, decide_eq_true_eq, beq_iff_eq] at h1 h2 ⊢
    rcases h1 with h1 | ⟨rfl, h1⟩
    · left
      have h1' : a.toNat < b.toNat := h1
      rcases h2 with h2 | ⟨rfl, _⟩
      · have h2' : b.toNat < c.toNat := h2
        exact (show a.toNat < c.toNat by omega)
      · exact h1
    · rcases h2 with h2 | ⟨rfl, h2⟩
      · exact .inl h2
      · exact .inr ⟨rfl, less_trans x y z h1 h2⟩
theorem usesForm_3 {v : PVal} (h : f_prop_usesForm v = some true) (hk : v.kind = 3) : v.items = [] := by
  unfold f_prop_usesForm at h
  simp [hk] at h
  by_cases h1 : v.int = 0
  · by_cases h2 : v.to = 0
    · simp [h1, h2] at h; exact h
    · simp [h1, h2] at h
  · simp [h1] at h
theorem checkValue_3 {v : PVal} (h : f_prop_CheckValue FUEL v = some 0) (hk : v.kind = 3) : v.items = [] := by
  obtain ⟨m, hm, _⟩ := FUEL_succ
  rw [hm, f_prop_CheckValue] at h
  obtain ⟨a, ha, h⟩ := bind_inv h
  cases a with
  | true => cases h
  | false =>
    rw [cond_false] at h
    obtain ⟨b, hb, h⟩ := bind_inv h
    cases b with
    | false => cases h
    | true => exact usesForm_3 hb hk
theorem props_loop (l : List PProp) : ∀ (rest : List PProp) (v : Nat), l.drop v = rest → (∃ e, e ≠ 0 ∧ f_prop_CheckProps_l1 l rest v = some (.inr e)) ∨ f_prop_CheckProps_l1 l rest v = none ∨
    ((∀ (i : Nat) (p q : PProp), v ≤ i + 1 → l[i]? = some p → l[i + 1]? = some q → Op.bytesLess p.name q.name = true) ∧ ∀ p ∈ rest, p.value.kind = 3 → p.value.items = [])
  | [], v, hd => by
    right; right
    refine ⟨fun i p q hi hp hq => ?_, fun _ h => by cases h⟩
    have := List.drop_eq_nil_iff.1 hd
    have := (List.getElem?_eq_some_iff.1 hq).1
    omega
  | x :: rest, v, hd => by
    have hx : l[v]? = some x := by
      have := congrArg (·[0]?) hd
      simpa using this
    have hn : l.drop (v + 1) = rest := by rw [← List.drop_drop, hd]; rfl
    have ih := props_loop l rest (v + 1) hn
    cases he : f_prop_CheckProps_l1 l (x :: rest) v with
    | none => exact .inr (.inl rfl)
    | some s =>
      have h := he
      unfold f_prop_CheckProps_l1 at h
      obtain ⟨a, ha, h⟩ := bind_inv h
      by_cases h0 : a ≠ 0
      · rw [decide_eq_true h0, cond_true] at h; cases h; exact .inl ⟨a, h0, rfl⟩
      rw [decide_eq_false h0, cond_false] at h
      obtain ⟨b, hb, h⟩ := bind_inv h
      cases b with
      | true => cases h; exact .inl ⟨5, by omega, rfl⟩
      | false =>
        rw [cond_false] at h
        by_cases h1 : x.value.kind = 0
        · rw [decide_eq_true h1, cond_true] at h; cases h; exact .inl ⟨10, by omega, rfl⟩
        rw [decide_eq_false h1, cond_false] at h
        obtain ⟨c, hc, h⟩ := bind_inv h
        by_cases h2 : c ≠ 0
        · rw [decide_eq_true h2, cond_true] at h; cases h; exact .inl ⟨c, h2, rfl⟩
        rw [decide_eq_false h2, cond_false] at h
        have hc0 : c = 0 := by omega
        subst hc0
        rw [h] at ih
        rcases ih with ⟨e, e1, e2⟩ | e2 | ⟨e1, e2⟩
        · exact .inl ⟨e, e1, e2⟩
        · cases e2
        · right; right
          refine ⟨fun i p q hi hp hq => ?_, fun p hp hk => ?_⟩
          · by_cases hvi : v = i + 1
            · subst hvi
              rw [hx] at hq; cases hq
              rw [decide_eq_true (show (0 : Int) < ((i + 1 : Nat) : Int) by omega), cond_true] at hb
              unfold ckI at hb
              split at hb
              · rw [show (((i + 1 : Nat) : Int) - 1) = (i : Int) by omega, atL_nat, hp, Option.bind_some] at hb
                have hb' := Option.some.inj hb
                rw [Bool.or_eq_false_iff] at hb'
                rcases less_total p.name x.name with h4 | h4 | h4
                · exact h4
                · rw [h4] at hb'; simp at hb'
                · rw [hb'.1] at h4; cases h4
              · cases hb
            · exact e1 i p q (by omega) hp hq
          · rcases List.mem_cons.1 hp with rfl | hp
            · exact checkValue_3 hc hk
            · exact e2 p hp hk
theorem props_ok {l : List PProp} (hs : mL mP l ≤ 1048576) (h : pErr l = 0) : (∀ (i j : Nat) (p q : PProp), i < j → l[i]? = some p → l[j]? = some q → Op.bytesLess p.name q.name = true) ∧ ∀ p ∈ l, p.value.kind = 3 → p.value.items = [] := by
  have h1 := (checkProps_tot l hs).getD
  have h2 : f_prop_CheckProps l = some 0 := by rw [h1]; show some (pErr l) = _; rw [h]
  unfold f_prop_CheckProps at h2
  by_cases h0 : (20 : Int) < (l.length : Int)
  · rw [decide_eq_true h0] at h2; cases h2
  rw [decide_eq_false h0, cond_false] at h2
  obtain ⟨s, hs', h2⟩ := bind_inv h2
  have hl := props_loop l l 0 rfl
  rw [hs'] at hl
  rcases hl with ⟨e, e1, e2⟩ | e2 | ⟨e1, e2⟩
  · cases e2
    rw [sum_inr] at h2
    exact absurd (Option.some.inj h2) e1
  · cases e2
  · refine ⟨fun i j p q hij hp hq => ?_, e2⟩
    obtain ⟨d, rfl⟩ : ∃ d, j = i + 1 + d := ⟨j - (i + 1), by omega⟩
    clear hij
    induction d generalizing q with
    | zero => exact e1 i p q (by omega) hp hq
    | succ d ih =>
      have hlt := (List.getElem?_eq_some_iff.1 hq).1
      have hc := List.getElem?_eq_getElem (l := l) (i := i + 1 + d) (by omega)
      exact less_trans _ _ _ (ih _ hc) (e1 (i + 1 + d) _ q (by omega) hc hq)
abbrev AL : Bytes := [97, 108, 105, 97, 115]
def isTxt (v : PVal) : Bool := decide (v.kind = 3)
def texts (l : List PVal) : List Bytes := (l.filter isTxt).map (·.text)
/-- The aliases in a list of properties. -/
def aliasL (l : List PProp) : List Bytes := l.flatMap fun p => cond (decide (p.name = AL)) (texts (p.value :: p.value.items)) []
theorem texts_len (l : List PVal) : (texts l).length ≤ l.length := by simp [texts]; exact List.length_filter_le ..
theorem alias_l2 : ∀ (l : List PVal) (acc : List Bytes), acc.length + l.length ≤ 4194304 → f_link_aliasesOf_l2 l acc = some (acc ++ texts l)
  | [], acc, _ => by simp [f_link_aliasesOf_l2, texts]
  | x :: r, acc, h => by
    simp only [List.length_cons] at h
    unfold f_link_aliasesOf_l2
    by_cases hx : x.kind = 3
    · rw [decide_eq_true hx, cond_true, ckN_ok (by simp; omega), alias_l2 r _ (by simp; omega)]
      simp [texts, isTxt, hx]
    · rw [decide_eq_false hx, cond_false, alias_l2 r acc (by omega)]
      simp [texts, isTxt, hx]
theorem alias2_l2 : ∀ (l : List PVal) (acc : List Bytes), acc.length + l.length ≤ 4194304 → f_florref2_book_aliases_l2 l acc = some (acc ++ texts l)
  | [], acc, _ => by simp [f_florref2_book_aliases_l2, texts]
  | x :: r, acc, h => by
    simp only [List.length_cons] at h
    unfold f_florref2_book_aliases_l2
    by_cases hx : x.kind = 3
    · rw [decide_eq_true hx, cond_true, ckN_ok (by simp; omega), alias2_l2 r _ (by simp; omega)]
      simp [texts, isTxt, hx]
    · rw [decide_eq_false hx, cond_false, alias2_l2 r acc (by omega)]
      simp [texts, isTxt, hx]
theorem items_len (v : PVal) : v.items.length + 1 ≤ mVs v.items := by
  rw [mVs_eq]; exact mL_length (fun x => by cases x; simp [mV, mS]) _
theorem alias_l1 : ∀ (l : List PProp) (acc : List Bytes), acc.length + mL mP l ≤ 4194304 → f_link_aliasesOf_l1 l acc = some (acc ++ aliasL l)
  | [], acc, _ => by simp [f_link_aliasesOf_l1, aliasL]
  | p :: r, acc, h => by
    rw [mL_cons] at h
    have hi := items_len p.value
    have hv := mV_items p.value
    have hp : mV p.value < mP p := by simp [mP]; omega
    have ht := texts_len (p.value :: p.value.items)
    simp only [List.length_cons] at ht
    unfold f_link_aliasesOf_l1
    by_cases hn : p.name = AL
    · rw [decide_eq_false (show ¬ (p.name ≠ AL) from fun h => h hn), cond_false, ckN_ok (by simp; omega)]
      show (f_link_aliasesOf_l2 (p.value :: p.value.items) acc).bind _ = _
      rw [alias_l2 _ _ (by simp; omega), Option.bind_some, alias_l1 r _ (by simp; omega)]
      simp [aliasL, hn]
    · rw [decide_eq_true (show p.name ≠ AL from hn), cond_true, alias_l1 r acc (by omega)]
      simp [aliasL, hn]
def getP (name : Bytes) : List PProp → Option PVal
  | [] => none
  | p :: r => if p.name = name then some p.value else getP name r
theorem getOf_eq (name : Bytes) : ∀ l : List PProp, f_florref2_GetOf_l1 name l = some (match getP name l with | some v => .inr (v.kind, v.int, v.to, v.text, v.items) | none => .inl ())
  | [] => rfl
  | p :: r => by
    unfold f_florref2_GetOf_l1
    rw [condD, getOf_eq name r]
    simp only [getP]
    by_cases h : p.name = name
    · rw [if_pos h, if_pos h]
    · rw [if_neg h, if_neg h]
theorem aliasL_get {l : List PProp} (h1 : ∀ (i j : Nat) (p q : PProp), i < j → l[i]? = some p → l[j]? = some q → Op.bytesLess p.name q.name = true) : aliasL l = match getP AL l with
    | some v => texts (v :: v.items)
    | none => [] := by
  induction l with
  | nil => rfl
  | cons p r ih =>
    have ih' := ih fun i j a b hij ha hb => h1 (i + 1) (j + 1) a b (by omega) (by simpa using ha) (by simpa using hb)
    simp only [getP]
    by_cases hn : p.name = AL
    · rw [if_pos hn]
      have hno : aliasL r = [] := by
        unfold aliasL
        rw [List.flatMap_eq_nil_iff]
        intro q hq
        obtain ⟨j, hj⟩ := List.getElem?_of_mem hq
        have := h1 0 (j + 1) p q (by omega) rfl (by simpa using hj)
        have hne : ¬ (q.name = AL) := fun h => by rw [hn, h, less_irrefl] at this; cases this
        rw [decide_eq_false hne]; rfl
      have : aliasL (p :: r) = texts (p.value :: p.value.items) ++ aliasL r := by simp [aliasL, hn]
      rw [this, hno, List.append_nil]
    · rw [if_neg hn, ← ih']
      simp [aliasL, hn]
end Go.Fl
