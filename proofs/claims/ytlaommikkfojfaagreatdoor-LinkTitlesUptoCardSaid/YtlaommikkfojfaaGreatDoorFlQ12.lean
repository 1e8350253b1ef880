/- Titles and aliases: who is found first. Plain Lean. -/
import Derived.Test.YtlaommikkfojfaaGreatDoorFlQ11
namespace Go.Fl
set_option maxRecDepth 100000
set_option linter.unusedSimpArgs false
def FT (s : Bytes) : Bytes := (fold s).map lo
def dfl : Block := ⟨0, 0, [], [], []⟩
def bk (base : List Block) (p : Int) : Block := match posOf base p with
  | some i => (base[i]?).getD dfl
  | none => dfl
theorem bk_eq {base : List Block} (h : Ord base) {i : Nat} {b : Block} (hb : base[i]? = some b) : bk base b.id = b := by
  unfold bk; rw [h.posOf hb]; dsimp only; rw [hb]; rfl
/-- A page of a base. -/
structure Pg (base : List Block) (p : Int) : Prop where
  at_ : ∃ i : Nat, base[i]? = some (bk base p) ∧ (bk base p).id = p
  pos : 0 < p
theorem Tr.pg {base : List Block} (h : Tr base) {z : Block} (hz : base[0]? = some z) {p : Int} (hp : p ∈ z.kids) : Pg base p := by
  obtain ⟨h0, i, b, hb, hbp, _⟩ := h.kid z (List.mem_of_getElem? hz) p hp
  have := h.pos i b hb
  refine ⟨⟨i, ?_, ?_⟩, by omega⟩
  · rw [← hbp, bk_eq h.toOrd hb]; exact hb
  · rw [← hbp, bk_eq h.toOrd hb]
theorem Pg.mem {base : List Block} {p : Int} (h : Pg base p) : bk base p ∈ base := by obtain ⟨i, hi, _⟩ := h.at_; exact List.mem_of_getElem? hi
theorem title_ok {base : List Block} (hs : SmB base) {x : Block} (hx : x ∈ base) : f_link_FoldTitle x.text = some (FT x.text) ∧ f_florref2_FoldOfTitle x.text = some (FT x.text) := by
  have := hs.text hx
  exact ⟨FoldTitle_eq _ (by omega), FoldOfTitle_eq _ (by omega)⟩
theorem texts_mem {l : List PVal} {t : Bytes} (h : t ∈ texts l) : t.length < mVs l := by
  simp only [texts, List.mem_map] at h
  obtain ⟨v, hv, rfl⟩ := h
  have h1 := mVs_mem (List.mem_filter.1 hv).1
  have h2 := mV_text v
  omega
theorem aliasL_mem {l : List PProp} {t : Bytes} (h : t ∈ aliasL l) : t.length < mL mP l := by
  simp only [aliasL, List.mem_flatMap] at h
  obtain ⟨p, hp, ht⟩ := h
  have hm := mL_mem (m := mP) hp
  by_cases hn : p.name = AL
  · rw [decide_eq_true hn, cond_true] at ht
    have h1 := texts_mem ht
    have h2 := mV_items p.value
    have h3 : mV p.value < mP p := by simp [mP]; omega
    have h4 : mVs (p.value :: p.value.items) = mV p.value + mVs p.value.items := by rw [mVs]
    have : t.length < mV p.value + 1 + mVs p.value.items := by omega
    simp only [texts, List.mem_map] at ht
    obtain ⟨v, hv, rfl⟩ := ht
    rcases List.mem_cons.1 (List.mem_filter.1 hv).1 with rfl | hv
    · have := mV_text p.value; omega
    · have := mVs_mem hv; have := mV_text v; omega
  · rw [decide_eq_false hn] at ht; simp at ht
theorem aliasL_len : ∀ l : List PProp, (aliasL l).length ≤ mL mP l
  | [] => by simp [aliasL]
  | p :: r => by
    have ih := aliasL_len r
    rw [mL_cons]
    have hi := items_len p.value
    have hv := mV_items p.value
    have hp : mV p.value < mP p := by simp [mP]; omega
    have ht := texts_len (p.value :: p.value.items)
    simp only [List.length_cons] at ht
    have : aliasL (p :: r) = cond (decide (p.name = AL)) (texts (p.value :: p.value.items)) [] ++ aliasL r := by simp [aliasL]
    rw [this, List.length_append]
    by_cases hn : p.name = AL
    · rw [decide_eq_true hn, cond_true]; omega
    · rw [decide_eq_false hn, cond_false]; simp; omega
theorem aliases_link {base : List Block} (hs : SmB base) {x : Block} (hx : x ∈ base) : f_link_aliasesOf x = some (aliasL x.props) := by
  have := hs.props hx
  unfold f_link_aliasesOf
  rw [alias_l1 x.props [] (by simp; omega)]
  simp
theorem block_loop (base : List Block) (hl : base.length ≤ 1048576) (id : Int) : ∀ (rest : List Block) (fuel v : Nat), base.drop v = rest → rest.length < fuel →
    f_florref2_book_block_l1 id ⟨base⟩ fuel v = some (match posOf rest id with | some i => (match rest[i]? with | some x => .inr (x.id, x.parent, x.kids, x.text, x.props) | none => .inl ()) | none => .inl ())
  | [], fuel, v, hd, hf => by
    obtain ⟨f, rfl⟩ : ∃ f, fuel = f + 1 := ⟨fuel - 1, by simp at hf; omega⟩
    have := List.drop_eq_nil_iff.1 hd
    unfold f_florref2_book_block_l1
    dsimp only
    rw [decide_eq_false (by omega)]; rfl
  | x :: rest, fuel, v, hd, hf => by
    obtain ⟨f, rfl⟩ : ∃ f, fuel = f + 1 := ⟨fuel - 1, by simp at hf; omega⟩
    have hx : base[v]? = some x := by
      have := congrArg (·[0]?) hd
      simpa using this
    have hv := (List.getElem?_eq_some_iff.1 hx).1
    have hn : base.drop (v + 1) = rest := by rw [← List.drop_drop, hd]; rfl
    have ih := block_loop base hl id rest f (v + 1) hn (by simp at hf; omega)
    unfold f_florref2_book_block_l1
    dsimp only
    rw [decide_eq_true (by omega), cond_true, hx, Option.bind_some, condD, ckI_ok (by omega) (by omega), ih]
    simp only [posOf]
    by_cases he : x.id = id
    · rw [if_pos he, if_pos he]; rfl
    · rw [if_neg he, if_neg he]
      cases posOf rest id with
      | none => rfl
      | some i => simp
theorem block_eq {base : List Block} (hs : SmB base) {p : Int} (hp : Pg base p) (h : Ord base) : f_florref2_book_block ⟨base⟩ p = some (.inr ((bk base p).id, (bk base p).parent, (bk base p).kids, (bk base p).text, (bk base p).props)) := by
  have hlen := hs.len
  obtain ⟨i, hi, hid⟩ := hp.at_
  have hpos : posOf base p = some i := by have := h.posOf hi; rwa [hid] at this
  have := block_loop base (by omega) p base FUEL 0 rfl (FUEL_gt (by omega))
  rw [hpos] at this
  dsimp only at this
  rw [hi] at this
  unfold f_florref2_book_block
  rw [this, Option.bind_some, sum_inr]
theorem aliases_ref {base : List Block} (hs : SmB base) (h : Ord base) {p : Int} (hp : Pg base p) : f_florref2_book_aliases ⟨base⟩ p = some (aliasL (bk base p).props) := by
  have hx := hp.mem
  have hsp := hs.props hx
  obtain ⟨o1, o2⟩ := props_ok hsp (h.pe _ hx)
  unfold f_florref2_book_aliases
  rw [block_eq hs hp h, Option.bind_some, sum_inr]
  unfold f_florref2_GetOf
  dsimp only
  rw [getOf_eq, aliasL_get o1, Option.bind_some]
  have hmem : ∀ (l : List PProp) (v : PVal), getP AL l = some v → ∃ q ∈ l, q.value = v := by
    intro l
    induction l with
    | nil => intro v hv; cases hv
    | cons a r ih =>
      intro v hv
      simp only [getP] at hv
      split at hv
      · cases hv; exact ⟨a, List.mem_cons_self, rfl⟩
      · obtain ⟨q, hq, e⟩ := ih v hv; exact ⟨q, List.mem_cons_of_mem _ hq, e⟩
  cases hg : getP AL (bk base p).props with
  | none =>
    dsimp only
    rw [sum_inl, Option.bind_some, sum_inl]
    obtain ⟨m, hm, _⟩ := FUEL_succ
    rw [hm]
    rfl
  | some v =>
    obtain ⟨q, hq, hqv⟩ := hmem _ _ hg
    have hmm := mL_mem (m := mP) hq
    have hv := mV_items q.value
    have hi := items_len q.value
    have hpv : mV q.value < mP q := by simp [mP]; omega
    rw [hqv] at hv hi hpv
    dsimp only
    rw [sum_inr, Option.bind_some, sum_inr]
    have hmk : (PVal.mk v.kind v.int v.to v.text v.items) = v := by cases v; rfl
    rw [hmk]
    by_cases hk : v.kind = 3
    · have hit : v.items = [] := by rw [← hqv]; exact o2 q hq (by rw [hqv]; exact hk)
      rw [decide_eq_true hk, cond_true, Option.bind_some, alias2_l2 _ _ (by simp), Option.bind_some, hit]
      rfl
    · rw [decide_eq_false hk, cond_false, Option.bind_some, alias2_l2 _ _ (by simp; omega), Option.bind_some]
      have : texts (v :: v.items) = texts v.items := by simp [texts, isTxt, hk]
      rw [this]; rfl
end Go.Fl
