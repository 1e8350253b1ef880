/- Pages by their titles. Plain Lean. -/
import Derived.Test.YtlaommikkfojfaaGreatDoorFlQ12
namespace Go.Fl
set_option maxRecDepth 100000
set_option linter.unusedSimpArgs false
def byT (base : List Block) (f : Bytes) (p : Int) : Bool := decide (FT (bk base p).text = f)
def byA (base : List Block) (f : Bytes) (p : Int) : Bool := decide (f ∈ (aliasL (bk base p).props).map FT)
theorem keep_eq (m : List (Bytes × Int)) (n : Bytes) (p : Int) (h : m.length ≤ 4294967295) : ∃ m', f_link_keep_65f5 m n p = some m' ∧ m'.length ≤ m.length + 1 ∧ ∀ f, mget m' f = (mget m f).or (if f = n then some p else none) := by
  unfold f_link_keep_65f5
  cases hm : (mget m n).isSome with
  | true =>
    refine ⟨m, by rw [Bool.not_true, cond_false], by omega, fun f => ?_⟩
    by_cases hf : f = n
    · subst hf
      obtain ⟨v, hv⟩ := Option.isSome_iff_exists.1 hm
      rw [hv]; rfl
    · rw [if_neg hf]; simp
  | false =>
    refine ⟨mset m n p, by rw [Bool.not_false, cond_true, ckN_ok (by omega)], mset_len _ _ _, fun f => ?_⟩
    rw [mget_mset]
    by_cases hf : f = n
    · subst hf
      rw [if_pos rfl, if_pos rfl]
      cases hv : mget m f with
      | none => rfl
      | some v => rw [hv] at hm; cases hm
    · rw [if_neg (Ne.symm hf), if_neg hf]; simp
theorem keepA (p : Int) : ∀ (l : List Bytes) (m : List (Bytes × Int)), (∀ t ∈ l, t.length ≤ 1048576) → m.length + l.length ≤ 4294967295 → ∃ m', f_link_look_l4 p l m = some m' ∧ m'.length ≤ m.length + l.length ∧ ∀ f, mget m' f = (mget m f).or (if f ∈ l.map FT then some p else none)
  | [], m, _, _ => ⟨m, rfl, by simp, fun f => by simp⟩
  | t :: r, m, ht, hl => by
    simp only [List.length_cons] at hl
    obtain ⟨m1, e1, e2, e3⟩ := keep_eq m (FT t) p (by omega)
    obtain ⟨m2, g1, g2, g3⟩ := keepA p r m1 (fun t' h => ht t' (List.mem_cons_of_mem _ h)) (by omega)
    refine ⟨m2, ?_, by simp only [List.length_cons]; omega, fun f => ?_⟩
    · unfold f_link_look_l4
      rw [FoldTitle_eq t (ht t List.mem_cons_self), Option.bind_some]
      show (f_link_keep_65f5 m (FT t) p).bind _ = _
      rw [e1, Option.bind_some]
      exact g1
    · rw [g3, e3]
      by_cases h1 : f = FT t
      · subst h1
        rw [if_pos rfl, if_pos (show FT t ∈ (t :: r).map FT by simp)]
        cases mget m (FT t) <;> rfl
      · rw [if_neg h1]
        have : (f ∈ (t :: r).map FT) ↔ f ∈ r.map FT := by simp only [List.map_cons, List.mem_cons, h1, false_or]
        by_cases h2 : f ∈ r.map FT
        · rw [if_pos h2, if_pos (this.2 h2)]; simp
        · rw [if_neg h2, if_neg fun h => h2 (this.1 h)]; simp
theorem look_l3 {base : List Block} (hs : SmB base) (ho : Ord base) (s30 : (List Block) × (List (Int × Int)) × (List (Int × Int)) × (List (Bytes × Int)) × (List (Bytes × Int))) (h1 : ∀ (j : Nat) (b : Block), base[j]? = some b → mget s30.2.1 b.id = some ((j : Nat) : Int)) :
    ∀ (L : List Int) (t a : List (Bytes × Int)), (∀ p ∈ L, Pg base p) → t.length + L.length ≤ 4000 → a.length + L.length * 1048577 ≤ 4194304000 →
    ∃ t' a', f_link_look_l3 base s30 L t a = some (t', a') ∧ ∀ f, mget t' f = (mget t f).or (L.find? (byT base f)) ∧ mget a' f = (mget a f).or (L.find? (byA base f))
  | [], t, a, _, _, _ => ⟨t, a, rfl, fun f => by simp⟩
  | p :: L, t, a, hp, hlt, hla => by
    simp only [List.length_cons] at hlt hla
    have hpg := hp p List.mem_cons_self
    obtain ⟨i, hi, hid⟩ := hpg.at_
    have hm := hpg.mem
    have hprops := hs.props hm
    have hal := aliasL_len (bk base p).props
    obtain ⟨t1, e1, e2, e3⟩ := keep_eq t (FT (bk base p).text) p (by omega)
    obtain ⟨a1, g1, g2, g3⟩ := keepA p (aliasL (bk base p).props) a (fun x hx => by have := aliasL_mem hx; omega) (by omega)
    obtain ⟨t', a', r1, r2⟩ := look_l3 hs ho s30 h1 L t1 a1 (fun q hq => hp q (List.mem_cons_of_mem _ hq)) (by omega) (by omega)
    refine ⟨t', a', ?_, fun f => ?_⟩
    · unfold f_link_look_l3
      have := h1 i _ hi
      rw [hid] at this
      rw [this, Option.getD_some, atL_nat, hi, Option.bind_some, (title_ok hs hm).1, Option.bind_some, e1, Option.bind_some, aliases_link hs hm, Option.bind_some, g1, Option.bind_some]
      exact r1
    · obtain ⟨r3, r4⟩ := r2 f
      rw [r3, r4, e3, g3]
      constructor
      · by_cases h : FT (bk base p).text = f
        · rw [List.find?_cons_of_pos (by simp [byT, h]), if_pos h.symm]
          cases mget t f <;> rfl
        · rw [List.find?_cons_of_neg (by simp [byT, h]), if_neg (Ne.symm h)]; simp
      · by_cases h : f ∈ (aliasL (bk base p).props).map FT
        · rw [List.find?_cons_of_pos (by simp only [byA]; exact decide_eq_true h), if_pos h]
          cases mget a f <;> rfl
        · rw [List.find?_cons_of_neg (by simp only [byA]; rw [decide_eq_false h]; simp), if_neg h]; simp
theorem page_l1 {base : List Block} (hs : SmB base) (ho : Ord base) (f : Bytes) : ∀ L : List Int, (∀ p ∈ L, Pg base p) → f_florref2_book_page_l1 ⟨base⟩ f L = some (match L.find? (byT base f) with | some p => .inr p | none => .inl ())
  | [], _ => rfl
  | p :: L, hp => by
    have hpg := hp p List.mem_cons_self
    have ih := page_l1 hs ho f L fun q hq => hp q (List.mem_cons_of_mem _ hq)
    unfold f_florref2_book_page_l1
    rw [block_eq hs hpg ho, Option.bind_some, sum_inr]
    dsimp only
    rw [(title_ok hs hpg.mem).2, Option.bind_some, condD, ih]
    by_cases h : FT (bk base p).text = f
    · rw [if_pos h, List.find?_cons_of_pos (by simp [byT, h])]
    · rw [if_neg h, List.find?_cons_of_neg (by simp [byT, h])]
theorem contains_loop (l : List Bytes) (f : Bytes) (ht : ∀ t ∈ l, t.length ≤ 1048576) (hl : l.length ≤ 4194304) : ∀ (rest : List Bytes) (fuel v : Nat), l.drop v = rest → rest.length < fuel → ∃ r, f_slices_IndexFunc_string_string_11cd_l1 l fuel f v = some r ∧ ((f ∈ rest.map FT → ∃ i, r = .inr (i, f)) ∧ (f ∉ rest.map FT → r = .inl f))
  | [], fuel, v, hd, hf => by
    obtain ⟨g, rfl⟩ : ∃ g, fuel = g + 1 := ⟨fuel - 1, by simp at hf; omega⟩
    have := List.drop_eq_nil_iff.1 hd
    refine ⟨.inl f, ?_, fun h => by simp at h, fun _ => rfl⟩
    unfold f_slices_IndexFunc_string_string_11cd_l1
    rw [decide_eq_false (by omega)]; rfl
  | t :: rest, fuel, v, hd, hf => by
    obtain ⟨g, rfl⟩ : ∃ g, fuel = g + 1 := ⟨fuel - 1, by simp at hf; omega⟩
    have hx : l[v]? = some t := by
      have := congrArg (·[0]?) hd
      simpa using this
    have hv := (List.getElem?_eq_some_iff.1 hx).1
    have hn : l.drop (v + 1) = rest := by rw [← List.drop_drop, hd]; rfl
    have htm : t ∈ l := List.mem_of_getElem? hx
    obtain ⟨r, e1, e2, e3⟩ := contains_loop l f ht hl rest g (v + 1) hn (by simp at hf; omega)
    unfold f_slices_IndexFunc_string_string_11cd_l1
    rw [decide_eq_true (by omega), cond_true, hx, Option.bind_some]
    unfold f_florref2_book_page_1_555a
    rw [FoldOfTitle_eq t (ht t htm), Option.bind_some, Option.bind_some]
    dsimp only
    rw [condD]
    by_cases h : FT t = f
    · have h' : (fold t).map lo = f := h
      rw [if_pos h']
      exact ⟨_, rfl, fun _ => ⟨v, rfl⟩, fun hno => absurd (by simp [h]) hno⟩
    · have h' : ¬ ((fold t).map lo = f) := h
      rw [if_neg h', ckI_ok (by omega) (by omega)]
      refine ⟨r, e1, fun hm => e2 ?_, fun hm => e3 fun hh => hm (by simp [hh])⟩
      simp only [List.map_cons, List.mem_cons] at hm
      rcases hm with hm | hm
      · exact absurd hm.symm h
      · exact hm
theorem contains_eq (l : List Bytes) (f : Bytes) (ht : ∀ t ∈ l, t.length ≤ 1048576) (hl : l.length ≤ 4194304) : f_slices_ContainsFunc_string_string_11cd l f = some (decide (f ∈ l.map FT), f) := by
  obtain ⟨r, e1, e2, e3⟩ := contains_loop l f ht hl l FUEL 0 rfl (FUEL_gt (by omega))
  unfold f_slices_ContainsFunc_string_string_11cd f_slices_IndexFunc_string_string_11cd
  rw [e1, Option.bind_some]
  by_cases h : f ∈ l.map FT
  · obtain ⟨i, hi⟩ := e2 h
    rw [hi, sum_inr, Option.bind_some, decide_eq_true h]
    dsimp only
    rw [decide_eq_true (by omega)]
  · rw [e3 h, sum_inl, Option.bind_some, decide_eq_false h]
    rfl
theorem page_l2 {base : List Block} (hs : SmB base) (ho : Ord base) (f : Bytes) : ∀ L : List Int, (∀ p ∈ L, Pg base p) → f_florref2_book_page_l2 ⟨base⟩ L f = some (match L.find? (byA base f) with | some p => .inr p | none => .inl ())
  | [], _ => rfl
  | p :: L, hp => by
    have hpg := hp p List.mem_cons_self
    have hm := hpg.mem
    have hprops := hs.props hm
    have hal := aliasL_len (bk base p).props
    have ih := page_l2 hs ho f L fun q hq => hp q (List.mem_cons_of_mem _ hq)
    unfold f_florref2_book_page_l2
    rw [aliases_ref hs ho hpg, Option.bind_some, contains_eq _ _ (fun t ht => by have := aliasL_mem ht; omega) (by omega), Option.bind_some]
    dsimp only
    rw [condD, ih]
    by_cases h : f ∈ (aliasL (bk base p).props).map FT
    · rw [if_pos h, List.find?_cons_of_pos (by simp only [byA]; exact decide_eq_true h)]
    · rw [if_neg h, List.find?_cons_of_neg (by simp only [byA]; rw [decide_eq_false h]; simp)]
/-- The page that has a title, or 0. -/
def lead (base : List Block) (L : List Int) (f : Bytes) : Int := match L.find? (byT base f) with
  | some p => p
  | none => (L.find? (byA base f)).getD 0
/-- What is known of the pages of a good base. -/
theorem sorted_ref {base : List Block} {z : Block} (hz : base[0]? = some z) (hl : z.kids.length ≤ 500) : f_florref2_book_sorted ⟨base⟩ = some (sortI z.kids) := by
  unfold f_florref2_book_sorted f_florref2_book_pages f_slices_Clone_int_int sortIC
  dsimp only
  rw [hz, Option.bind_some, Option.bind_some, ckN_ok (by simp; omega), Option.bind_some, List.nil_append, ckN_ok (by omega), Option.bind_some]
theorem page_ref {base : List Block} (hs : SmB base) (hg : Good base) {z : Block} (hz : base[0]? = some z) {title : Bytes} (ht : title.length ≤ 1048576) : f_florref2_book_page ⟨base⟩ title = some (lead base (sortI z.kids) (FT title)) := by
  have hzm := List.mem_of_getElem? hz
  have hL : ∀ p ∈ sortI z.kids, Pg base p := fun p hp => hg.toTr.pg hz (by simpa [sortI] using hp)
  unfold f_florref2_book_page
  rw [FoldOfTitle_eq _ ht, Option.bind_some, sorted_ref hz (hg.kids z hzm), Option.bind_some]
  show (f_florref2_book_page_l1 ⟨base⟩ (FT title) (sortI z.kids)).bind _ = _
  rw [page_l1 hs hg.toOrd _ _ hL, Option.bind_some]
  unfold lead
  cases (sortI z.kids).find? (byT base (FT title)) with
  | some p => rfl
  | none =>
    dsimp only
    rw [sum_inl, Option.bind_some]
    show (f_florref2_book_page_l2 ⟨base⟩ (sortI z.kids) (FT title)).bind _ = _
    rw [page_l2 hs hg.toOrd _ _ hL, Option.bind_some]
    cases (sortI z.kids).find? (byA base (FT title)) <;> rfl
theorem look_eq {base : List Block} (hs : SmB base) (hq : QK base) : ∃ e : Int, f_florref1_BaseError base = some e ∧ ((e ≠ 0 ∧ f_link_look base = some (.inl e)) ∨ (e = 0 ∧ Good base ∧ ∃ z m1 m3 t a, base[0]? = some z ∧ z.id = 0 ∧ f_link_look base = some (.inr (base, m1, m3, t, a, 0)) ∧
    (∀ (j : Nat) (b : Block), base[j]? = some b → mget m1 b.id = some ((j : Nat) : Int)) ∧ (∀ t v, mget m3 t = some v → v ∈ z.kids) ∧ (∀ p ∈ z.kids, mget m3 p = some p) ∧
    ∀ f, mget t f = (sortI z.kids).find? (byT base f) ∧ mget a f = (sortI z.kids).find? (byA base f))) := by
  obtain ⟨e, c1, c2, c3⟩ := check_same hs hq
  refine ⟨e, c2, ?_⟩
  by_cases he : e = 0
  · right
    have hg := c3 he
    obtain ⟨z, hz, hz0⟩ := hg.z
    have hzm := List.mem_of_getElem? hz
    have hk := hg.kids z hzm
    obtain ⟨m1, i1, i2⟩ := byId_loop hg.toOrd hs base 0 [] rfl (Nat.le_refl _) (fun j b hj => by omega)
    obtain ⟨m3, k1, k2, k3, k4⟩ := marks hg i2 hz hz0 z.kids [] (fun _ h => h) ⟨by simp [keys], fun k h => by simp [keys] at h⟩ (fun t v h => by simp [mget] at h)
    have hL : ∀ p ∈ sortI z.kids, Pg base p := fun p hp => hg.toTr.pg hz (by simpa [sortI] using hp)
    have hll : (sortI z.kids).length = z.kids.length := by simp [sortI]
    obtain ⟨t, a, l1, l2⟩ := look_l3 hs hg.toOrd (base, m1, m3, [], []) i2 (sortI z.kids) [] [] hL (by simp; omega) (by simp; omega)
    refine ⟨he, hg, z, m1, m3, t, a, hz, hz0, ?_, i2, k3, fun p hp => k4 p hp (.inl hp), fun f => by have := l2 f; simpa [mget] using this⟩
    unfold f_link_look
    rw [c1, Option.bind_some, decide_eq_false (fun h => h he), cond_false, i1, Option.bind_some, hz, Option.bind_some, k1, Option.bind_some, Option.bind_some]
    unfold f_slices_Values_int_int
    rw [Option.bind_some, sorted_eq _ (by omega), Option.bind_some]
    dsimp only
    rw [l1, Option.bind_some]
  · left
    refine ⟨he, ?_⟩
    unfold f_link_look
    rw [c1, Option.bind_some, decide_eq_true he]; rfl
theorem page_same {base : List Block} (hs : SmB base) (hq : QK base) {title : Bytes} (ht : title.length ≤ 1048576) : ∃ r, f_link_Page base title = some r ∧ f_florref2_PageFor base title = some r := by
  obtain ⟨e, h1, h2⟩ := look_eq hs hq
  unfold f_link_Page f_florref2_PageFor f_florref2_open
  rw [h1, Option.bind_some, Option.bind_some]
  dsimp only
  rcases h2 with ⟨he, h2⟩ | ⟨he, hg, z, m1, m3, t, a, hz, hz0, h2, _, _, _, h6⟩
  · rw [h2, Option.bind_some, sum_inl, decide_eq_true he, cond_true, cond_true]
    exact ⟨_, rfl, rfl⟩
  · rw [h2, Option.bind_some, sum_inr, decide_eq_false (fun h => h rfl), cond_false, page_ref hs hg hz ht, Option.bind_some]
    dsimp only
    rw [decide_eq_false (fun h => h he), cond_false]
    unfold f_link_view_lead_5076
    rw [FoldTitle_eq _ ht, Option.bind_some]
    rw [show (fold title).map lo = FT title from rfl]
    obtain ⟨g1, g2⟩ := h6 (FT title)
    have hpos : lead base (sortI z.kids) (FT title) = 0 ∨ 0 < lead base (sortI z.kids) (FT title) := by
      have key : ∀ (g : Int → Bool) p, (sortI z.kids).find? g = some p → 0 < p := fun g p hp => (hg.toTr.pg hz (by simpa [sortI] using List.mem_of_find?_eq_some hp)).pos
      unfold lead
      cases hf : (sortI z.kids).find? (byT base (FT title)) with
      | some p => exact .inr (key _ p hf)
      | none =>
        cases hf2 : (sortI z.kids).find? (byA base (FT title)) with
        | some p => exact .inr (key _ p hf2)
        | none => exact .inl rfl
    have hlead : (cond (mget t (FT title)).isSome (some ((mget t (FT title)).getD (0 : Int), base, m1, m3, t, a)) (some ((mget a (FT title)).getD (0 : Int), base, m1, m3, t, a))) = some (lead base (sortI z.kids) (FT title), base, m1, m3, t, a) := by
      rw [g1, g2]
      unfold lead
      cases (sortI z.kids).find? (byT base (FT title)) <;> rfl
    rw [hlead, Option.bind_some]
    dsimp only
    rcases hpos with h0 | h0
    · rw [decide_eq_true h0, decide_eq_false (by omega)]; exact ⟨_, rfl, rfl⟩
    · rw [decide_eq_false (by omega), decide_eq_true h0]; exact ⟨_, rfl, rfl⟩
end Go.Fl
