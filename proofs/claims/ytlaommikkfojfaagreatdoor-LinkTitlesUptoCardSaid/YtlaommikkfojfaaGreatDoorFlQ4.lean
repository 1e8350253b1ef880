/- The checks of properties always answer. Plain Lean. -/
import Derived.Test.YtlaommikkfojfaaGreatDoorFlQ3
import Derived.Test.YtlaommikkfojfaaGreatDoorFlReads
namespace Go.Fl
set_option maxRecDepth 100000
set_option linter.unusedSimpArgs false
/-- It answers. -/
def Tot {α : Type} (x : Option α) : Prop := ∃ r, x = some r
section
variable {α β σ ε : Type}
theorem Tot.some (a : α) : Tot (some a) := ⟨a, rfl⟩
theorem Tot.bind {x : Option α} {f : α → Option β} (h : Tot x) (k : ∀ a, x = .some a → Tot (f a)) : Tot (x.bind f) := by
  obtain ⟨a, ha⟩ := h
  subst ha
  exact k a rfl
theorem Tot.cond {c : Bool} {x y : Option α} (h : c = true → Tot x) (k : c = false → Tot y) : Tot (cond c x y) := by
  cases c
  · exact k rfl
  · exact h rfl
theorem Tot.ckI {x : Int} {r : Option α} (h1 : -9223372036854775808 ≤ x) (h2 : x ≤ 9223372036854775807) (h : Tot r) : Tot (ckI x r) := by rw [ckI_ok h1 h2]; exact h
theorem Tot.ckN {n : Nat} {r : Option α} (h1 : n ≤ 4294967296) (h : Tot r) : Tot (ckN n r) := by rw [ckN_ok h1]; exact h
theorem Tot.sum {x : Sum σ ε} {f : σ → Option β} {g : ε → Option β} (h : ∀ s, x = .inl s → Tot (f s)) (k : ∀ e, x = .inr e → Tot (g e)) : Tot (sumC x f g) := by
  cases x with
  | inl s => exact h s rfl
  | inr e => exact k e rfl
theorem Tot.get {l : List α} {i : Nat} (h : i < l.length) : Tot (l[i]?) := ⟨l[i], List.getElem?_eq_getElem h⟩
end
theorem outside_tot (a b c : Int) : Tot (f_prop_outside a b c) := by
  unfold f_prop_outside
  exact Tot.cond (fun _ => .some _) fun _ => .some _
theorem usesForm_tot (v : PVal) : Tot (f_prop_usesForm v) := by
  unfold f_prop_usesForm
  refine Tot.bind ?_ fun a _ => Tot.bind ?_ fun b _ => ?_
  all_goals repeat' (first | exact Tot.some _ | refine Tot.cond (fun _ => ?_) (fun _ => ?_))
theorem checkNumbers_tot (v : PVal) : Tot (f_prop_checkNumbers v) := by
  unfold f_prop_checkNumbers
  repeat' (first | exact Tot.some _ | exact outside_tot _ _ _ | refine Tot.cond (fun _ => ?_) (fun _ => ?_) | refine Tot.bind ?_ (fun _ _ => ?_))
theorem runeAt_pos (s : Bytes) (i : Nat) : 1 ≤ (runeAt s i).2 := by
  simp only [runeAt, Utf8.decode]
  repeat' split
  all_goals simp
theorem runeAt_nn (s : Bytes) (i : Nat) : 0 ≤ (runeAt s i).1 := by simp only [runeAt]; omega
theorem hasControl_tot (s : Bytes) (hs : s.length ≤ 1048576) : Tot (f_prop_hasControl s) := by
  have key : ∀ k fuel v, s.length - v ≤ k → k < fuel → Tot (f_strings_indexFunc_b3fb_l1 s fuel v) := by
    intro k
    induction k with
    | zero =>
      intro fuel v hk hf
      obtain ⟨f, rfl⟩ : ∃ f, fuel = f + 1 := ⟨fuel - 1, by omega⟩
      unfold f_strings_indexFunc_b3fb_l1
      exact Tot.cond (fun h => by have := of_decide_eq_true h; omega) fun _ => .some _
    | succ k ih =>
      intro fuel v hk hf
      obtain ⟨f, rfl⟩ : ∃ f, fuel = f + 1 := ⟨fuel - 1, by omega⟩
      unfold f_strings_indexFunc_b3fb_l1
      refine Tot.cond (fun h => ?_) fun _ => .some _
      have := of_decide_eq_true h
      have hp := runeAt_pos s v
      refine Tot.bind ?_ fun r _ => Tot.cond (fun _ => .some _) fun _ => ih f _ (by omega) (by omega)
      unfold f_prop_hasControl_1
      exact Tot.cond (fun _ => .some _) fun _ => .some _
  have h0 := key s.length FUEL 0 (by omega) (FUEL_gt (by omega))
  unfold f_prop_hasControl f_strings_ContainsFunc_bb48 f_strings_IndexFunc_bb48 f_strings_indexFunc_b3fb
  exact Tot.bind (Tot.bind (Tot.bind (Tot.bind h0 fun x _ => Tot.sum (fun _ _ => .some _) fun _ _ => .some _) fun _ _ => .some _) fun _ _ => .some _) fun _ _ => .some _
theorem contains_tot (c : UInt8) : Tot (f_strings_asciiSet_contains_124d (c.toNat : Int)) := by
  unfold f_strings_asciiSet_contains_124d
  rw [ckP_ok (by omega)]
  refine Tot.bind (Tot.get ?_) fun _ _ => .some _
  have := c.toNat_lt
  rw [Int.toNat_natCast]
  exact this
theorem encode_last (r : Int) (h0 : 128 ≤ r) : ∃ l x, runeStr r = l ++ [x] ∧ 128 ≤ x.toNat ∧ 1 ≤ l.length ∧ l.length ≤ 3 := by
  have hc : 128 ≤ (if Utf8.valid r then r.toNat else Utf8.runeError) := by
    split
    · omega
    · decide
  simp only [runeStr, Utf8.encode]
  generalize (if Utf8.valid r then r.toNat else Utf8.runeError) = c at hc ⊢
  have hb : 128 ≤ (UInt8.ofNat (128 + c % 64)).toNat := by
    rw [UInt8.toNat_ofNat']; omega
  rw [if_neg (by omega)]
  split
  · exact ⟨[_], _, rfl, hb, by simp, by simp⟩
  · split
    · exact ⟨[_, _], _, rfl, hb, by simp, by simp⟩
    · exact ⟨[_, _, _], _, rfl, hb, by simp, by simp⟩
theorem index_tail (y : Bytes) (x : UInt8) (hy : ∀ c ∈ y, c.toNat < 128) (hx : 128 ≤ x.toNat) : indexB y (x.toNat : Int) = -1 := by
  have hx' : ((x.toNat : Int).toNat.toUInt8) = x := by simp
  simp only [indexB, hx']
  induction y with
  | nil => rfl
  | cons c y ih =>
    have hc : (c == x) = false := by
      have := hy c List.mem_cons_self
      simp; intro e; subst e; omega
    simp only [Go.Lib.indexByte, hc, ih (fun d hd => hy d (List.mem_cons_of_mem _ hd))]
    simp
theorem indexRune_tot (r : Int) (h0 : 0 ≤ r) : Tot (f_strings_IndexRune_1289 r) := by
  unfold f_strings_IndexRune_1289
  refine Tot.bind (Tot.cond (fun _ => .some _) fun _ => .some _) fun b hb => Tot.cond (fun _ => ⟨_, rfl⟩) fun h1 => Tot.cond (fun _ => .some _) fun h2 => Tot.bind ?_ fun v _ => Tot.cond (fun _ => .some _) fun _ => ?_
  · unfold f_unicode_utf8_ValidRune
    repeat' (first | exact Tot.some _ | refine Tot.cond (fun _ => ?_) (fun _ => ?_) | refine Tot.bind ?_ (fun _ _ => ?_))
  have hr : 128 ≤ r := by
    rw [h1] at hb
    rw [decide_eq_true h0, cond_true] at hb
    have := of_decide_eq_false (Option.some.inj hb)
    omega
  obtain ⟨l, x, hl, hx, h3, h4⟩ := encode_last r hr
  have hlen : (runeStr r).length = l.length + 1 := by rw [hl]; simp
  refine Tot.ckI (by omega) (by omega) (Tot.bind ?_ fun x _ => Tot.sum (fun _ _ => .some _) fun _ _ => .some _)
  obtain ⟨f, hf, _⟩ := FUEL_succ
  rw [hf]
  unfold f_strings_IndexRune_1289_l1
  have hget : atL (runeStr r) (((runeStr r).length : Int) - 1) = some x := by
    rw [atL_ok (by omega), hlen, hl, show (((l.length + 1 : Nat) : Int) - 1).toNat = l.length by omega]
    simp
  refine Tot.cond (fun h => ?_) fun _ => .some _
  have hlt := of_decide_eq_true h
  have hl2 : l.length = 1 ∨ l.length = 2 := by omega
  obtain ⟨c, hc, hcl⟩ : ∃ c, atL ([91, 93, 124] : Bytes) (((runeStr r).length : Int) - 1) = some c ∧ c.toNat < 128 := by
    rw [atL_ok (by omega), hlen, show (((l.length + 1 : Nat) : Int) - 1).toNat = l.length by omega]
    rcases hl2 with h | h <;> rw [h]
    · exact ⟨93, rfl, by decide⟩
    · exact ⟨124, rfl, by decide⟩
  have hne : ((c.toNat : Int) ≠ (x.toNat : Int)) := by omega
  have hsmall : ∀ (a b : Nat), ∀ d ∈ ((([91, 93, 124] : Bytes).drop a).take b), d.toNat < 128 := fun a b d hd => by
    have h1 := List.mem_of_mem_drop (List.mem_of_mem_take hd)
    simp at h1
    rcases h1 with rfl | rfl | rfl <;> decide
  have h3' : (([91, 93, 124] : Bytes).length : Int) = 3 := rfl
  rw [hc, hget, Option.bind_some, Option.bind_some, decide_eq_true hne, cond_true, ckI_ok (by omega) (by omega), cutL_ok (by omega) (by rw [h3']; omega) (by rw [h3']; omega), Option.bind_some, Option.bind_some]
  unfold f_strings_IndexByte f_internal_stringslite_IndexByte
  rw [Option.bind_some, Option.bind_some, index_tail _ x (hsmall _ _) hx, decide_eq_true (by omega), cond_true, Option.bind_some, sum_inr]
  exact .some _
theorem indexAny_tot (s : Bytes) (hs : s.length ≤ 1048576) : Tot (f_strings_ContainsAny_1877 s) := by
  have k1 : ∀ k fuel v, s.length - v ≤ k → k < fuel → Tot (f_strings_IndexAny_1877_l1 s fuel v) := by
    intro k
    induction k with
    | zero =>
      intro fuel v hk hf
      obtain ⟨f, rfl⟩ : ∃ f, fuel = f + 1 := ⟨fuel - 1, by omega⟩
      unfold f_strings_IndexAny_1877_l1
      exact Tot.cond (fun h => by have := of_decide_eq_true h; omega) fun _ => .some _
    | succ k ih =>
      intro fuel v hk hf
      obtain ⟨f, rfl⟩ : ∃ f, fuel = f + 1 := ⟨fuel - 1, by omega⟩
      unfold f_strings_IndexAny_1877_l1
      refine Tot.cond (fun h => ?_) fun _ => .some _
      have := of_decide_eq_true h
      exact Tot.bind (Tot.get (by omega)) fun c _ => Tot.bind (contains_tot c) fun b _ => Tot.cond (fun _ => .some _) fun _ => Tot.ckI (by omega) (by omega) (ih f _ (by omega) (by omega))
  have k2 : ∀ k fuel v, s.length - v ≤ k → k < fuel → Tot (f_strings_IndexAny_1877_l2 s fuel v) := by
    intro k
    induction k with
    | zero =>
      intro fuel v hk hf
      obtain ⟨f, rfl⟩ : ∃ f, fuel = f + 1 := ⟨fuel - 1, by omega⟩
      unfold f_strings_IndexAny_1877_l2
      exact Tot.cond (fun h => by have := of_decide_eq_true h; omega) fun _ => .some _
    | succ k ih =>
      intro fuel v hk hf
      obtain ⟨f, rfl⟩ : ∃ f, fuel = f + 1 := ⟨fuel - 1, by omega⟩
      unfold f_strings_IndexAny_1877_l2
      refine Tot.cond (fun h => ?_) fun _ => .some _
      have := of_decide_eq_true h
      have hp := runeAt_pos s v
      exact Tot.bind (indexRune_tot _ (runeAt_nn s v)) fun r _ => Tot.cond (fun _ => .some _) fun _ => ih f _ (by omega) (by omega)
  have h1 := k1 s.length FUEL 0 (by omega) (FUEL_gt (by omega))
  have h2 := k2 s.length FUEL 0 (by omega) (FUEL_gt (by omega))
  unfold f_strings_ContainsAny_1877 f_strings_IndexAny_1877
  refine Tot.bind (Tot.bind ?_ fun x _ => Tot.sum (fun _ _ => ?_) fun _ _ => .some _) fun _ _ => .some _
  · unfold f_strings_shouldUseASCIISet f_strings_makeASCIISet_6248
    refine Tot.bind (.some _) fun _ _ => Tot.cond (fun _ => Tot.bind (.some _) fun _ _ => Tot.cond (fun _ => Tot.bind h1 fun _ _ => Tot.sum (fun _ _ => .some _) fun _ _ => .some _) fun _ => .some _) fun _ => .some _
  · exact Tot.bind h2 fun _ _ => Tot.sum (fun _ _ => .some _) fun _ _ => .some _
theorem checkText_tot (v : PVal) (h : v.text.length ≤ 1048576) : Tot (f_prop_checkText v) := by
  unfold f_prop_checkText
  refine Tot.bind (Tot.cond (fun _ => .some _) fun _ => Tot.cond (fun _ => .some _) fun _ => .some _) fun _ _ => Tot.cond (fun _ => .some _) fun _ => Tot.bind (hasControl_tot _ h) fun _ _ => Tot.cond (fun _ => .some _) fun _ => Tot.bind ?_ fun _ _ => Tot.cond (fun _ => .some _) fun _ => .some _
  refine Tot.cond (fun _ => Tot.cond (fun _ => .some _) fun hne => ?_) fun _ => .some _
  have hpos : 0 < v.text.length := List.length_pos_iff.2 (of_decide_eq_false hne)
  refine Tot.bind (Tot.get hpos) fun _ _ => Tot.cond (fun _ => .some _) fun _ => Tot.ckI (by omega) (by omega) (Tot.bind ?_ fun _ _ => Tot.cond (fun _ => .some _) fun _ => Tot.bind (indexAny_tot _ h) fun _ _ => .some _)
  rw [atL_ok (by omega)]
  exact Tot.get (by omega)
theorem mV_text (v : PVal) : v.text.length < mV v := by cases v; simp [PVal.text, mV, mS]; omega
theorem mV_items (v : PVal) : mVs v.items < mV v := by cases v; simp [PVal.items, mV, mS]; omega
theorem mVs_mem {x : PVal} {l : List PVal} (h : x ∈ l) : mV x < mVs l := by rw [mVs_eq]; exact mL_mem h
theorem checkValue_tot : ∀ (n fuel : Nat) (v : PVal), mV v ≤ n → n < fuel → n ≤ 1048576 → Tot (f_prop_CheckValue fuel v) := by
  intro n
  induction n with
  | zero => intro fuel v h; have := mV_text v; omega
  | succ n ih =>
    intro fuel v hv hf hn
    obtain ⟨f, rfl⟩ : ∃ f, fuel = f + 1 := ⟨fuel - 1, by omega⟩
    have ht := mV_text v
    have hi := mV_items v
    have hloop : ∀ l : List PVal, (∀ x ∈ l, mV x ≤ n) → Tot (f_prop_CheckValue_l1 (f_prop_CheckValue f) l) := by
      intro l
      induction l with
      | nil => intro _; exact .some _
      | cons x l ihl =>
        intro hx
        unfold f_prop_CheckValue_l1
        exact Tot.bind (Tot.cond (fun _ => .some _) fun _ => .some _) fun _ _ => Tot.cond (fun _ => .some _) fun _ => Tot.bind (ih f x (hx x List.mem_cons_self) (by omega) (by omega)) fun _ _ => Tot.cond (fun _ => .some _) fun _ => ihl fun y hy => hx y (List.mem_cons_of_mem _ hy)
    rw [f_prop_CheckValue]
    exact Tot.bind (outside_tot _ _ _) fun _ _ => Tot.cond (fun _ => .some _) fun _ => Tot.bind (usesForm_tot v) fun _ _ => Tot.cond (fun _ => .some _) fun _ => Tot.bind (checkNumbers_tot v) fun _ _ => Tot.cond (fun _ => .some _) fun _ => Tot.bind (checkText_tot v (by omega)) fun _ _ => Tot.cond (fun _ => .some _) fun _ => Tot.cond (fun _ => .some _) fun _ =>
      Tot.bind (hloop v.items fun x hx => by have := mVs_mem hx; omega) fun _ _ => Tot.sum (fun _ _ => .some _) fun _ _ => .some _
theorem checkName_tot (s : Bytes) (hs : s.length ≤ 1048576) : Tot (f_prop_CheckName s) := by
  have k1 : ∀ k fuel v, s.length - v ≤ k → k < fuel → Tot (f_prop_CheckName_l1 s fuel v) := by
    intro k
    induction k with
    | zero =>
      intro fuel v hk hf
      obtain ⟨f, rfl⟩ : ∃ f, fuel = f + 1 := ⟨fuel - 1, by omega⟩
      unfold f_prop_CheckName_l1
      exact Tot.cond (fun h => by have := of_decide_eq_true h; omega) fun _ => .some _
    | succ k ih =>
      intro fuel v hk hf
      obtain ⟨f, rfl⟩ : ∃ f, fuel = f + 1 := ⟨fuel - 1, by omega⟩
      unfold f_prop_CheckName_l1
      refine Tot.cond (fun h => ?_) fun _ => .some _
      have := of_decide_eq_true h
      refine Tot.bind (Tot.get (by omega)) fun c _ => Tot.bind ?_ fun b _ => Tot.cond (fun _ => .some _) fun _ => Tot.ckI (by omega) (by omega) (ih f _ (by omega) (by omega))
      repeat' (first | exact Tot.some _ | refine Tot.cond (fun _ => ?_) (fun _ => ?_))
  have h1 := k1 s.length FUEL 0 (by omega) (FUEL_gt (by omega))
  unfold f_prop_CheckName
  refine Tot.bind ?_ fun _ _ => Tot.cond (fun _ => .some _) fun _ => Tot.bind h1 fun _ _ => Tot.sum (fun _ _ => .some _) fun _ _ => .some _
  refine Tot.cond (fun _ => .some _) fun hne => Tot.cond (fun _ => .some _) fun _ => ?_
  have hpos : 0 < s.length := List.length_pos_iff.2 (of_decide_eq_false hne)
  exact Tot.bind (Tot.get hpos) fun _ _ => Tot.cond (fun _ => .some _) fun _ => Tot.bind (Tot.get hpos) fun _ _ => .some _
theorem checkProps_tot (l : List PProp) (h : mL mP l ≤ 1048576) : Tot (f_prop_CheckProps l) := by
  have hp : ∀ p : PProp, 1 ≤ mP p := fun p => by simp [mP]
  have hlen := mL_length hp l
  have key : ∀ (rest : List PProp) (v : Nat), l.drop v = rest → Tot (f_prop_CheckProps_l1 l rest v) := by
    intro rest
    induction rest with
    | nil => intro v _; exact .some _
    | cons x rest ih =>
      intro v hv
      have hvl : v < l.length := by
        rcases Nat.lt_or_ge v l.length with h' | h'
        · exact h'
        · rw [List.drop_eq_nil_of_le h'] at hv; cases hv
      have hx : x ∈ l := List.mem_of_mem_drop (by rw [hv]; exact List.mem_cons_self)
      have hm := mL_mem (m := mP) hx
      have hpn : x.name.length < mP x := by simp [mP, mS]; omega
      have hpv : mV x.value < mP x := by simp [mP]; omega
      have hnext : l.drop (v + 1) = rest := by
        rw [← List.drop_drop, hv]; rfl
      unfold f_prop_CheckProps_l1
      refine Tot.bind (checkName_tot _ (by omega)) fun _ _ => Tot.cond (fun _ => .some _) fun _ => Tot.bind ?_ fun _ _ => Tot.cond (fun _ => .some _) fun _ => Tot.cond (fun _ => .some _) fun _ =>
        Tot.bind (checkValue_tot _ FUEL _ (Nat.le_refl _) (FUEL_gt (by omega)) (by omega)) fun _ _ => Tot.cond (fun _ => .some _) fun _ => ih (v + 1) hnext
      refine Tot.cond (fun h0 => Tot.ckI (by omega) (by omega) (Tot.bind ?_ fun _ _ => .some _)) fun _ => .some _
      have := of_decide_eq_true h0
      rw [atL_ok (by omega)]
      exact Tot.get (by omega)
  unfold f_prop_CheckProps
  exact Tot.cond (fun _ => .some _) fun _ => Tot.bind (key l 0 rfl) fun _ _ => Tot.sum (fun _ _ => .some _) fun _ _ => .some _
end Go.Fl
